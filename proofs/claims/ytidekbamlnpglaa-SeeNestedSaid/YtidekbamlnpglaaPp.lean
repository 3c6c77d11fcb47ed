/-
  The plain forest: the way of an event, and that it ends.
-/
import Derived.Test.YtidekbamlnpglaaPs
namespace Tc

/-- The parent of a node for an event. -/
def parentE (L : Fo) (first : Int) (composed : Bool) (id : Int) : Int :=
  if there L id = false then 0
  else if slotOf L id ≠ 0 then slotOf L id
  else if (nd L id).kind ≠ 3 then par L id
  else if composed = false ∧ root L first = id then 0
  else hst L id

/-! ## A number for each node, that grows along the way -/
def baseL (L : Fo) : List Int → Nat
  | [] => 0
  | x :: t => baseL L t + (if par L x = 0 ∧ t ≠ [] then 3 ^ (L.length + 1 - t.length) else 0)
def base (L : Fo) (x : Int) : Nat := baseL L (over L x)
def dep (L : Fo) (x : Int) : Nat := (over L x).length
def key (L : Fo) (x : Int) : Nat := base L x + 2 * 3 ^ (L.length + 1 - dep L x)

theorem base_step {L : Fo} (h : WF L) {x : Int} (ht : there L x = true) (ho : over1 L x ≠ 0) : base L x = base L (over1 L x) + (if par L x = 0 then 3 ^ (L.length + 1 - dep L (over1 L x)) else 0) ∧ dep L x = dep L (over1 L x) + 1 := by
  unfold base dep
  have hne : over L (over1 L x) ≠ [] := by rw [over_cons h.ends (h.over_there ho)]; simp
  rw [over_cons h.ends ht]
  refine ⟨?_, by simp⟩
  rw [baseL]
  by_cases hp : par L x = 0
  · rw [if_pos ⟨hp, hne⟩, if_pos hp]
  · rw [if_neg (fun e => hp e.1), if_neg hp]
theorem pow3 (n : Nat) : 3 ^ (n + 1) = 3 * 3 ^ n := by rw [Nat.pow_succ]; omega
theorem dep_le {L : Fo} (h : WF L) (x : Int) : dep L x ≤ L.length := over_length h.ends x

/-- What is below a node has its numbers within that one's. -/
theorem base_in {L : Fo} (h : WF L) {r : Int} (y : Int) : r ∈ over L y → base L r ≤ base L y ∧ base L y + 3 ^ (L.length + 2 - dep L y) ≤ base L r + 3 ^ (L.length + 2 - dep L r) ∧ (y = r ∨ base L y + 3 ^ (L.length + 2 - dep L y) ≤ base L r + 2 * 3 ^ (L.length + 1 - dep L r)) := by
  refine over_ind h.ends (P := fun y => r ∈ over L y → base L r ≤ base L y ∧ base L y + 3 ^ (L.length + 2 - dep L y) ≤ base L r + 3 ^ (L.length + 2 - dep L r) ∧ (y = r ∨ base L y + 3 ^ (L.length + 2 - dep L y) ≤ base L r + 2 * 3 ^ (L.length + 1 - dep L r))) ?_ ?_ y
  · intro y h0 hm; rw [over_not h0] at hm; cases hm
  · intro y ht ih hm
    rw [over_cons h.ends ht] at hm
    rcases List.mem_cons.1 hm with rfl | hm
    · exact ⟨Nat.le_refl _, Nat.le_refl _, Or.inl rfl⟩
    · have ho : over1 L y ≠ 0 := fun e => by rw [e, over_not (there_zero L)] at hm; cases hm
      obtain ⟨i1, i2, i3⟩ := ih hm
      obtain ⟨e1, e2⟩ := base_step h ht ho
      have hd := dep_le h y
      have hd2 := dep_le h r
      have q1 : 3 ^ (L.length + 2 - dep L (over1 L y)) = 3 * 3 ^ (L.length + 1 - dep L (over1 L y)) := by
        rw [show L.length + 2 - dep L (over1 L y) = (L.length + 1 - dep L (over1 L y)) + 1 from by omega, pow3]
      have q2 : L.length + 2 - dep L y = L.length + 1 - dep L (over1 L y) := by omega
      have q3 : base L y ≤ base L (over1 L y) + 3 ^ (L.length + 1 - dep L (over1 L y)) := by
        rw [e1]; split <;> omega
      have q4 : base L (over1 L y) ≤ base L y := by rw [e1]; omega
      rw [q2]
      refine ⟨by omega, by omega, Or.inr ?_⟩
      rcases i3 with e | i3
      · rw [e] at q3 ⊢; omega
      · omega
theorem key_below {L : Fo} (h : WF L) {r y : Int} (hm : r ∈ over L y) : y = r ∨ key L y < key L r := by
  obtain ⟨_, _, e | i3⟩ := base_in h y hm
  · exact Or.inl e
  · right
    have hd := dep_le h y
    have q1 : 3 ^ (L.length + 2 - dep L y) = 3 * 3 ^ (L.length + 1 - dep L y) := by
      rw [show L.length + 2 - dep L y = (L.length + 1 - dep L y) + 1 from by omega, pow3]
    have q2 : 0 < 3 ^ (L.length + 1 - dep L y) := Nat.pow_pos (by omega)
    unfold key; omega

theorem slotOf_there {L : Fo} (h : WF L) {x : Int} (hs : slotOf L x ≠ 0) : there L (slotOf L x) = true := (slotOf_root h rfl hs).1
theorem slotOf_self {L : Fo} (h : WF L) {x : Int} (hs : slotOf L x ≠ 0) : there L x = true ∧ par L x ≠ 0 ∧ (nd L x).kind = 2 := by
  obtain ⟨h1, h2, _⟩ := slotOf_mem rfl hs
  refine ⟨?_, (fun e => by rw [e, there_zero] at h1; cases h1), h2⟩
  cases ht : there L x with
  | true => rfl
  | false => rw [nd_not ht] at h2; cases h2
/-- A slot stands below the parent of what is assigned to it. -/
theorem slotOf_over {L : Fo} (h : WF L) {x : Int} (hs : slotOf L x ≠ 0) : over L (slotOf L x) = up L (slotOf L x) ++ over L (par L x) ∧ root L (slotOf L x) ∈ up L (slotOf L x) := by
  obtain ⟨h1, _, _, h4, _⟩ := slotOf_root h rfl hs
  refine ⟨?_, (root_there h h1).2.2⟩
  rw [over_up h h1, outH_eq h, h4]

theorem parentE_there {L : Fo} (h : WF L) {first : Int} {c : Bool} {x : Int} (hp : parentE L first c x ≠ 0) : there L x = true ∧ there L (parentE L first c x) = true := by
  unfold parentE at hp ⊢
  split at hp
  · exact absurd rfl hp
  · rename_i h1
    have h1 : there L x = true := by simpa using h1
    refine ⟨h1, ?_⟩
    rw [if_neg (by rw [h1]; simp)]
    split at hp
    · rename_i h2; rw [if_pos h2]; exact slotOf_there h h2
    · rename_i h2; rw [if_neg h2]
      split at hp
      · rename_i h3; rw [if_pos h3]; exact h.par_there x hp
      · rename_i h3; rw [if_neg h3]
        split at hp
        · exact absurd rfl hp
        · rename_i h4; rw [if_neg h4]; exact h.hst_there x hp
theorem over1_key {L : Fo} (h : WF L) {x : Int} (ht : there L x = true) (ho : over1 L x ≠ 0) : key L x < key L (over1 L x) := by
  have hm : over1 L x ∈ over L x := by
    rw [over_cons h.ends ht]
    exact List.mem_cons_of_mem _ (mem_over_self h.ends (h.over_there ho))
  rcases key_below h hm with e | e
  · exfalso
    have := over_cons h.ends ht
    rw [← e] at this
    have := congrArg List.length this
    simp at this
  · exact e
/-- How a parent for an event stands to the node. -/
theorem parentE_cases {L : Fo} (h : WF L) {first : Int} {c : Bool} {x : Int} (hp : parentE L first c x ≠ 0) :
    (slotOf L x ≠ 0 ∧ parentE L first c x = slotOf L x) ∨ (slotOf L x = 0 ∧ over1 L x ≠ 0 ∧ parentE L first c x = over1 L x) := by
  have ht := (parentE_there h hp).1
  unfold parentE at hp ⊢
  rw [if_neg (by rw [ht]; simp)] at hp ⊢
  by_cases h2 : slotOf L x ≠ 0
  · rw [if_pos h2]; exact Or.inl ⟨h2, rfl⟩
  · right
    rw [if_neg h2] at hp ⊢
    refine ⟨Classical.byContradiction h2, ?_⟩
    by_cases h3 : (nd L x).kind ≠ 3
    · rw [if_pos h3] at hp ⊢
      unfold over1; rw [if_neg hp]; exact ⟨hp, rfl⟩
    · rw [if_neg h3] at hp ⊢
      have hr : par L x = 0 := h.rooted x (Or.inr (Classical.byContradiction h3))
      split at hp
      · exact absurd rfl hp
      · rename_i h4
        rw [if_neg h4]
        unfold over1; rw [if_pos hr]; exact ⟨hp, rfl⟩
theorem key_step {L : Fo} (h : WF L) {first : Int} {c : Bool} {x : Int} (hp : parentE L first c x ≠ 0) : key L x < key L (parentE L first c x) := by
  have ht := (parentE_there h hp).1
  rcases parentE_cases h hp with ⟨h2, e⟩ | ⟨_, h2, e⟩
  · rw [e]
    obtain ⟨g1, g2, _⟩ := slotOf_self h h2
    obtain ⟨s1, s2, s3, s4, s5⟩ := slotOf_root h rfl h2
    have ho : over1 L x = par L x := by unfold over1; rw [if_neg g2]
    have b1 := base_step h ht (by rw [ho]; exact g2)
    rw [ho, if_neg g2] at b1
    have hr := (root_there h s1)
    have ho2 : over1 L (root L (slotOf L x)) = par L x := by unfold over1; rw [if_pos hr.2.1, s4]
    have b2 := base_step h hr.1 (by rw [ho2]; exact g2)
    rw [ho2, if_pos hr.2.1] at b2
    have b3 := (base_in h _ (up_sub_over h.ends _ _ hr.2.2)).1
    have hd := dep_le h x
    have q : 3 ^ (L.length + 1 - dep L (par L x)) = 3 * 3 ^ (L.length + 1 - dep L x) := by
      rw [show L.length + 1 - dep L (par L x) = (L.length + 1 - dep L x) + 1 from by omega, pow3]
    have q2 : 0 < 3 ^ (L.length + 1 - dep L x) := Nat.pow_pos (by omega)
    unfold key
    omega
  · rw [e]; exact over1_key h ht h2

/-! ## The way -/
def way (L : Fo) (first : Int) (c : Bool) (id : Int) : List Int := ch (there L) (parentE L first c) (L.length + 1) id
theorem key_it {L : Fo} (h : WF L) {first : Int} {c : Bool} {x : Int} : ∀ (d i : Nat), (∀ j, i < j → j ≤ i + d + 1 → there L (it (parentE L first c) j x) = true) → key L (it (parentE L first c) i x) < key L (it (parentE L first c) (i + d + 1) x)
  | d, i, hall => by
    have step : ∀ j, there L (it (parentE L first c) (j + 1) x) = true → key L (it (parentE L first c) j x) < key L (it (parentE L first c) (j + 1) x) := fun j hj => by
      have e : it (parentE L first c) (j + 1) x = parentE L first c (it (parentE L first c) j x) := by rw [it_add]; rfl
      rw [e] at hj ⊢
      exact key_step h (fun e0 => by rw [e0, there_zero] at hj; cases hj)
    induction d with
    | zero => exact step i (hall _ (by omega) (by omega))
    | succ d ih =>
      have h1 := ih (fun j a b => hall j a (by omega))
      have h2 := step (i + d + 1) (hall _ (by omega) (by omega))
      rw [show i + (d + 1) + 1 = i + d + 1 + 1 from by omega]
      omega
theorem way_ends {L : Fo} (h : WF L) (first : Int) (c : Bool) (x : Int) : endsIn (there L) (parentE L first c) L.length x := by
  refine Classical.byContradiction fun hno => ?_
  have hall : ∀ i, i ≤ L.length → there L (it (parentE L first c) i x) = true := fun i hi => by
    cases ht : there L (it (parentE L first c) i x) with
    | true => rfl
    | false => exact absurd ((endsIn_iff _ _).2 ⟨i, hi, ht⟩) hno
  obtain ⟨a, b, hab, hb, e⟩ := pigeon L.length (fun i => (it (parentE L first c) i x - 1).toNat) (by
    intro i hi
    have := there_iff.1 (hall i hi)
    show (it (parentE L first c) i x - 1).toNat < L.length
    omega)
  have h1 := there_iff.1 (hall a (by omega))
  have h2 := there_iff.1 (hall b hb)
  have e : (it (parentE L first c) a x - 1).toNat = (it (parentE L first c) b x - 1).toNat := e
  have e' : it (parentE L first c) a x = it (parentE L first c) b x := by omega
  obtain ⟨d, rfl⟩ : ∃ d, b = a + d + 1 := ⟨b - a - 1, by omega⟩
  have := key_it h (first := first) (c := c) (x := x) d a (fun j _ hj => hall j (by omega))
  rw [e'] at this; omega
theorem way_not {L : Fo} {first : Int} {c : Bool} {x : Int} (ht : there L x = false) : way L first c x = [] := ch_stop ht _
theorem way_cons {L : Fo} (h : WF L) {first : Int} {c : Bool} {x : Int} (ht : there L x = true) : way L first c x = x :: way L first c (parentE L first c x) := by
  show ch _ _ _ _ = _
  rw [ch, if_pos ht]
  have := ch_stable (way_ends h first c (parentE L first c x)) (L.length + 1) (by omega)
  unfold way; rw [this]
theorem way_length {L : Fo} (h : WF L) (first : Int) (c : Bool) (x : Int) : (way L first c x).length ≤ L.length := by
  have := ch_stable (way_ends h first c x) (L.length + 1) (by omega)
  unfold way; rw [this]; exact ch_length _ _
theorem way_there {L : Fo} {first : Int} {c : Bool} {x y : Int} (hy : y ∈ way L first c x) : there L y = true := ch_mem _ _ _ hy
/-- Induction along the way. -/
theorem way_ind {L : Fo} (h : WF L) {first : Int} {c : Bool} {P : Int → Prop} (h0 : ∀ id, there L id = false → P id) (h1 : ∀ id, there L id = true → P (parentE L first c id) → P id) (id : Int) : P id := by
  have : ∀ (k : Nat) (id : Int), endsIn (there L) (parentE L first c) k id → P id := by
    intro k
    induction k with
    | zero => exact fun id h => h0 id h
    | succ k ih =>
      intro id h
      by_cases ht : there L id = true
      · rcases h with h | h
        · rw [h] at ht; cases ht
        · exact h1 id ht (ih _ h)
      · exact h0 id (by simpa using ht)
  exact this _ _ (way_ends h first c id)
theorem way_key {L : Fo} (h : WF L) {first : Int} {c : Bool} (x : Int) : (way L first c x).Pairwise (fun a b => key L a < key L b) ∧ ∀ y, y ∈ way L first c x → key L x ≤ key L y := by
  refine way_ind h (first := first) (c := c) (P := fun x => (way L first c x).Pairwise (fun a b => key L a < key L b) ∧ ∀ y, y ∈ way L first c x → key L x ≤ key L y) ?_ ?_ x
  · intro x ht; rw [way_not ht]; exact ⟨List.Pairwise.nil, fun _ hy => by cases hy⟩
  · intro x ht ih
    rw [way_cons h ht]
    have key : ∀ y, y ∈ way L first c (parentE L first c x) → key L x < key L y := fun y hy => by
      have hp : parentE L first c x ≠ 0 := fun e => by rw [e, way_not (there_zero L)] at hy; cases hy
      have := ih.2 y hy
      have := key_step h hp
      omega
    refine ⟨List.pairwise_cons.2 ⟨key, ih.1⟩, fun y hy => ?_⟩
    rcases List.mem_cons.1 hy with rfl | hy
    · exact Nat.le_refl _
    · exact Nat.le_of_lt (key y hy)
theorem way_nodup {L : Fo} (h : WF L) {first : Int} {c : Bool} (x : Int) : (way L first c x).Nodup := (way_key h x).1.imp fun hab e => by subst e; omega

/-! ## To aim -/
def aimF (L : Fo) (b : Int) : Nat → Int → Int
  | 0, _ => 0
  | n + 1, a => if there L a = false then 0 else if outH L a = 0 ∨ root L a ∈ over L b then a else aimF L b n (outH L a)
def aim (L : Fo) (a b : Int) : Int := aimF L b (dep L a + 1) a
theorem aimF_more {L : Fo} (h : WF L) (b : Int) : ∀ (n m : Nat) (a : Int), dep L a < n → dep L a < m → aimF L b n a = aimF L b m a
  | 0, _, _, h0, _ => by omega
  | _ + 1, 0, _, _, h0 => by omega
  | n + 1, m + 1, a, hn, hm => by
    unfold aimF
    split
    · rfl
    · rename_i ht
      have ht : there L a = true := by simpa using ht
      split
      · rfl
      · have := over_outH_lt h ht
        exact aimF_more h b n m _ (by unfold dep at *; omega) (by unfold dep at *; omega)
theorem aim_not {L : Fo} {a b : Int} (ht : there L a = false) : aim L a b = 0 := by unfold aim aimF; rw [if_pos ht]
theorem aim_stay {L : Fo} {a b : Int} (ht : there L a = true) (h2 : outH L a = 0 ∨ root L a ∈ over L b) : aim L a b = a := by unfold aim aimF; rw [if_neg (by rw [ht]; simp), if_pos h2]
theorem aim_out {L : Fo} (h : WF L) {a b : Int} (ht : there L a = true) (h2 : ¬ (outH L a = 0 ∨ root L a ∈ over L b)) : aim L a b = aim L (outH L a) b := by
  conv => lhs; unfold aim aimF
  rw [if_neg (by rw [ht]; simp), if_neg h2]
  have := over_outH_lt h ht
  exact aimF_more h b _ _ _ (by unfold dep at *; omega) (by omega)
theorem out_ind {L : Fo} (h : WF L) {P : Int → Prop} (h0 : ∀ id, there L id = false → P id) (h1 : ∀ id, there L id = true → P (outH L id) → P id) (id : Int) : P id := by
  have : ∀ (k : Nat) (id : Int), dep L id ≤ k → P id := by
    intro k
    induction k with
    | zero =>
      intro id hk
      refine h0 id ?_
      cases ht : there L id with
      | false => rfl
      | true => unfold dep at hk; rw [over_cons h.ends ht] at hk; simp at hk
    | succ k ih =>
      intro id hk
      cases ht : there L id with
      | false => exact h0 id ht
      | true =>
        have := over_outH_lt h ht
        exact h1 id ht (ih _ (by unfold dep at *; omega))
  exact this _ _ (Nat.le_refl _)
theorem aim_hidden {L : Fo} (h : WF L) {b : Int} (hb : there L b = true) (a : Int) : hidden L (aim L a b) b = false := by
  refine out_ind h (P := fun a => hidden L (aim L a b) b = false) ?_ ?_ a
  · intro a ht; rw [aim_not ht]; exact hidden_not (there_zero L)
  · intro a ht ih
    by_cases h2 : outH L a = 0 ∨ root L a ∈ over L b
    · rw [aim_stay ht h2, hidden_step h ht hb, if_pos h2]
    · rw [aim_out h ht h2]; exact ih

/-! ## The path -/
structure Sp where
  node : Int := 0
  target : Int := 0
  related : Int := 0
  cr : Bool := false
  cs : Bool := false
deriving DecidableEq

def spOf (L : Fo) (related tgt fr at_ : Int) : Sp := { node := at_, target := tgt, related := aim L related at_, cr := closedB L at_, cs := decide (slotOf L fr ≠ 0) && closedB L (root L at_) }
def steps (L : Fo) (related : Int) : Int → Int → List Int → List Sp
  | _, _, [] => []
  | t, fr, x :: r =>
    if root L t ∈ over L x then spOf L related 0 fr x :: steps L related t x r
    else if x = aim L related x then []
    else spOf L related x fr x :: steps L related x x r
def pathL (L : Fo) (target related : Int) (c : Bool) : List Sp :=
  if there L target = false then []
  else if aim L related target = target ∧ related ≠ target then []
  else { node := target, target := target, related := aim L related target, cr := closedB L target, cs := false } :: steps L related target target (way L target c (parentE L target c target))

theorem steps_len {L : Fo} {related : Int} : ∀ (l : List Int) (t fr : Int), (steps L related t fr l).length ≤ l.length
  | [], _, _ => by simp [steps]
  | x :: r, t, fr => by
    unfold steps
    split
    · have := steps_len (L := L) (related := related) r t x; simp; omega
    · split
      · simp
      · have := steps_len (L := L) (related := related) r x x; simp; omega
theorem steps_node {L : Fo} {related : Int} : ∀ (l : List Int) (t fr : Int) (i : Nat) (s : Sp), (steps L related t fr l)[i]? = some s → l[i]? = some s.node ∧ (s.target = 0 ∨ s.target = s.node) ∧ s.related = aim L related s.node ∧ s.cr = closedB L s.node ∧
    s.cs = (decide (slotOf L (((fr :: l)[i]?).getD 0) ≠ 0) && closedB L (root L s.node))
  | [], _, _, i, s, h => by simp [steps] at h
  | x :: r, t, fr, i, s, h => by
    unfold steps at h
    split at h
    · cases i with
      | zero =>
        simp only [List.getElem?_cons_zero, Option.some.injEq] at h
        subst h
        exact ⟨rfl, Or.inl rfl, rfl, rfl, rfl⟩
      | succ i =>
        rw [List.getElem?_cons_succ] at h ⊢
        have := steps_node r t x i s h
        simpa using this
    · split at h
      · simp at h
      · cases i with
        | zero =>
          simp only [List.getElem?_cons_zero, Option.some.injEq] at h
          subst h
          exact ⟨rfl, Or.inr rfl, rfl, rfl, rfl⟩
        | succ i =>
          rw [List.getElem?_cons_succ] at h ⊢
          have := steps_node r x x i s h
          simpa using this
/-- The target that is told at each entry isn't hidden from its node. -/
theorem pathL_spec {L : Fo} {target related : Int} {c : Bool} {i : Nat} {s : Sp} (h : WF L) (hs : (pathL L target related c)[i]? = some s) : there L target = true ∧ (way L target c target)[i]? = some s.node ∧ (s.target = 0 ∨ s.target = s.node) ∧ s.related = aim L related s.node ∧ s.cr = closedB L s.node ∧
    (i = 0 → s.target = target ∧ s.node = target ∧ s.cs = false) ∧ (∀ k, i = k + 1 → s.cs = (decide (slotOf L (((way L target c target)[k]?).getD 0) ≠ 0) && closedB L (root L s.node))) := by
  unfold pathL at hs
  split at hs
  · simp at hs
  · rename_i ht
    have ht : there L target = true := by simpa using ht
    split at hs
    · simp at hs
    · rw [way_cons h ht]
      cases i with
      | zero =>
        simp only [List.getElem?_cons_zero, Option.some.injEq] at hs
        subst hs
        exact ⟨ht, rfl, Or.inr rfl, rfl, rfl, fun _ => ⟨rfl, rfl, rfl⟩, fun k hk => by omega⟩
      | succ i =>
        rw [List.getElem?_cons_succ] at hs ⊢
        obtain ⟨a, b, d, e, f⟩ := steps_node _ _ _ _ _ hs
        exact ⟨ht, a, b, d, e, fun hk => by omega, fun k hk => by obtain rfl : i = k := by omega
                                                                  exact f⟩
end Tc

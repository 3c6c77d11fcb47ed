/-
  The plain forest: lists of nodes, chains of nodes upwards, and that they end. No program in sight.
-/
namespace Tc

/-- A node, as the program keeps it. -/
structure Nd where
  kind : Int := 0
  parent : Int := 0
  host : Int := 0
  shadow : Int := 0
  mode : Int := 0
  slot : Bool := false
  name : ByteArray := ByteArray.empty
  want : ByteArray := ByteArray.empty
  kids : List Int := []
deriving DecidableEq

abbrev Fo := List Nd

def there (L : Fo) (id : Int) : Bool := decide (1 ≤ id) && decide (id ≤ (L.length : Int))
def nd (L : Fo) (id : Int) : Nd := if 1 ≤ id then L.getD (id - 1).toNat {} else {}
abbrev par (L : Fo) (id : Int) : Int := (nd L id).parent
abbrev hst (L : Fo) (id : Int) : Int := (nd L id).host
def over1 (L : Fo) (id : Int) : Int := if par L id = 0 then hst L id else par L id

theorem there_iff {L : Fo} {id : Int} : there L id = true ↔ 1 ≤ id ∧ id ≤ (L.length : Int) := by
  unfold there; simp
theorem there_false {L : Fo} {id : Int} : there L id = false ↔ ¬ (1 ≤ id ∧ id ≤ (L.length : Int)) := by
  rw [← there_iff]; simp
theorem there_zero (L : Fo) : there L 0 = false := by rw [there_false]; omega
theorem nd_not {L : Fo} {id : Int} (h : there L id = false) : nd L id = {} := by
  rw [there_false] at h
  unfold nd
  by_cases h1 : 1 ≤ id
  · rw [if_pos h1, List.getD_eq_getElem?_getD, List.getElem?_eq_none (by omega)]; rfl
  · rw [if_neg h1]
theorem nd_nat {L : Fo} (i : Nat) (h : i < L.length) : nd L ((i : Int) + 1) = L[i] := by
  unfold nd
  rw [if_pos (by omega), List.getD_eq_getElem?_getD, show ((i : Int) + 1 - 1).toNat = i from by omega, List.getElem?_eq_getElem h]; rfl
theorem nd_get {L : Fo} {id : Int} (h : there L id = true) (h' : (id - 1).toNat < L.length) : nd L id = L[(id - 1).toNat] := by
  rw [there_iff] at h
  unfold nd
  rw [if_pos h.1, List.getD_eq_getElem?_getD, List.getElem?_eq_getElem h']; rfl

/-- Two forests are the same where all nodes are. -/
theorem fo_ext {L M : Fo} (hl : L.length = M.length) (h : ∀ id, there L id = true → nd L id = nd M id) : L = M := by
  apply List.ext_getElem hl
  intro i h1 h2
  have := h ((i : Int) + 1) (by rw [there_iff]; omega)
  rw [nd_nat i h1, nd_nat i h2] at this
  exact this

/-! ## Chains -/

/-- The chain of a step, as long as something is there. -/
def ch (t : Int → Bool) (s : Int → Int) : Nat → Int → List Int
  | 0, _ => []
  | k + 1, x => if t x then x :: ch t s k (s x) else []

def endsIn (t : Int → Bool) (s : Int → Int) : Nat → Int → Prop
  | 0, x => t x = false
  | k + 1, x => t x = false ∨ endsIn t s k (s x)

def it (s : Int → Int) : Nat → Int → Int
  | 0, x => x
  | k + 1, x => it s k (s x)

theorem it_add (s : Int → Int) : ∀ (a b : Nat) (x : Int), it s (a + b) x = it s b (it s a x)
  | 0, b, x => by simp [it]
  | a + 1, b, x => by rw [show a + 1 + b = (a + b) + 1 from by omega]; simp only [it]; exact it_add s a b (s x)

theorem endsIn_succ {t s} : ∀ (k : Nat) (x : Int), endsIn t s k x → endsIn t s (k + 1) x
  | 0, _, h => Or.inl h
  | k + 1, x, h => by
    rcases h with h | h
    · exact Or.inl h
    · exact Or.inr (endsIn_succ k _ h)
theorem endsIn_mono {t s} {k m : Nat} {x : Int} (hkm : k ≤ m) (h : endsIn t s k x) : endsIn t s m x := by
  induction hkm with
  | refl => exact h
  | step _ ih => exact endsIn_succ _ _ ih
theorem endsIn_iff {t s} : ∀ (k : Nat) (x : Int), endsIn t s k x ↔ ∃ j, j ≤ k ∧ t (it s j x) = false
  | 0, x => ⟨fun h => ⟨0, Nat.le_refl _, h⟩, fun ⟨j, hj, h⟩ => by
      obtain rfl : j = 0 := by omega
      exact h⟩
  | k + 1, x => by
    constructor
    · rintro (h | h)
      · exact ⟨0, by omega, h⟩
      · obtain ⟨j, hj, h⟩ := (endsIn_iff k _).1 h
        exact ⟨j + 1, by omega, h⟩
    · rintro ⟨j, hj, h⟩
      cases j with
      | zero => exact Or.inl h
      | succ j => exact Or.inr ((endsIn_iff k _).2 ⟨j, by omega, h⟩)

theorem ch_stop {t s} {x : Int} (h : t x = false) : ∀ k, ch t s k x = []
  | 0 => rfl
  | k + 1 => by simp [ch, h]
theorem ch_stable {t s} : ∀ {k : Nat} {x : Int}, endsIn t s k x → ∀ m, k ≤ m → ch t s m x = ch t s k x
  | 0, x, h, m, _ => by rw [ch_stop h]; rfl
  | k + 1, x, h, m, hm => by
    obtain ⟨m, rfl⟩ : ∃ q, m = q + 1 := ⟨m - 1, by omega⟩
    by_cases ht : t x = true
    · rcases h with h | h
      · rw [h] at ht; cases ht
      · simp only [ch, ht, if_true]; rw [ch_stable h m (by omega)]
    · have ht : t x = false := by simpa using ht
      rw [ch_stop ht, ch_stop ht]
theorem ch_length {t s} : ∀ (k : Nat) (x : Int), (ch t s k x).length ≤ k
  | 0, x => by simp [ch]
  | k + 1, x => by
    simp only [ch]; split
    · simp only [List.length_cons]; have := ch_length (t := t) (s := s) k (s x); omega
    · simp
theorem ch_mem {t s} : ∀ (k : Nat) (x y : Int), y ∈ ch t s k x → t y = true
  | 0, x, y, h => by simp [ch] at h
  | k + 1, x, y, h => by
    simp only [ch] at h
    split at h
    · rename_i ht
      rcases List.mem_cons.1 h with rfl | h
      · exact ht
      · exact ch_mem k _ _ h
    · cases h

theorem pigeon : ∀ (n : Nat) (f : Nat → Nat), (∀ x, x ≤ n → f x < n) → ∃ i j, i < j ∧ j ≤ n ∧ f i = f j
  | 0, f, h => by have := h 0 (Nat.le_refl _); omega
  | n + 1, f, h => by
    by_cases hc : ∃ i, i ≤ n ∧ f i = f (n + 1)
    · obtain ⟨i, hi, e⟩ := hc; exact ⟨i, n + 1, by omega, Nat.le_refl _, e⟩
    · have hne : ∀ i, i ≤ n → f i ≠ f (n + 1) := fun i hi e => hc ⟨i, hi, e⟩
      obtain ⟨i, j, hij, hj, e⟩ := pigeon n (fun x => if f x = n then f (n + 1) else f x) (by
        intro x hx
        have h1 := h x (by omega)
        have h2 := h (n + 1) (Nat.le_refl _)
        have h3 := hne x hx
        show (if f x = n then f (n + 1) else f x) < n
        split <;> omega)
      refine ⟨i, j, hij, by omega, ?_⟩
      have e : (if f i = n then f (n + 1) else f i) = (if f j = n then f (n + 1) else f j) := e
      have h1 := hne i (by omega)
      have h2 := hne j hj
      split at e <;> split at e <;> omega

/-- A chain within n things that ends at all, ends in n steps. -/
theorem endsIn_bound {t s} {n : Nat} (hb : ∀ y, t y = true → 1 ≤ y ∧ y ≤ (n : Int)) {k : Nat} {x : Int} (h : endsIn t s k x) : endsIn t s n x := by
  obtain ⟨j, -, hj⟩ := (endsIn_iff k x).1 h
  clear h
  induction j using Nat.strongRecOn with
  | ind j ih =>
    by_cases hjn : j ≤ n
    · exact (endsIn_iff n x).2 ⟨j, hjn, hj⟩
    · by_cases hall : ∀ i, i ≤ n → t (it s i x) = true
      · obtain ⟨a, b, hab, hbn, e⟩ := pigeon n (fun i => (it s i x - 1).toNat) (by
          intro i hi; have := hb _ (hall i hi); omega)
        have e' : it s a x = it s b x := by
          have h1 := hb _ (hall a (by omega)); have h2 := hb _ (hall b hbn); omega
        refine ih (a + (j - b)) (by omega) ?_
        rw [it_add, e', ← it_add, show b + (j - b) = j from by omega]; exact hj
      · exact Classical.byContradiction fun hno => hall fun i hi => by
          cases hti : t (it s i x) with
          | true => rfl
          | false => exact absurd ((endsIn_iff n x).2 ⟨i, hi, hti⟩) hno

/-! ## Up, over -/

def up (L : Fo) (id : Int) : List Int := ch (there L) (par L) (L.length + 1) id
def over (L : Fo) (id : Int) : List Int := ch (there L) (over1 L) (L.length + 1) id
def root (L : Fo) (id : Int) : Int := (up L id).getLastD 0
/-- The host of the shadow tree that a node is in. -/
def outH (L : Fo) (id : Int) : Int := if (nd L (root L id)).kind = 3 then hst L (root L id) else 0

def Ends (L : Fo) : Prop := ∀ id, ∃ k, endsIn (there L) (over1 L) k id

theorem Ends.bound {L : Fo} (h : Ends L) (id : Int) : endsIn (there L) (over1 L) L.length id := by
  obtain ⟨k, hk⟩ := h id
  exact endsIn_bound (fun y hy => there_iff.1 hy) hk

theorem endsIn_par {L : Fo} : ∀ (k : Nat) (id : Int), endsIn (there L) (over1 L) k id → endsIn (there L) (par L) k id
  | 0, _, h => h
  | k + 1, id, h => by
    rcases h with h | h
    · exact Or.inl h
    · refine Or.inr ?_
      by_cases hp : par L id = 0
      · rw [hp]
        exact endsIn_mono (Nat.zero_le _) (there_zero L)
      · unfold over1 at h; rw [if_neg hp] at h; exact endsIn_par k _ h

theorem up_not {L : Fo} {id : Int} (h : there L id = false) : up L id = [] := ch_stop h _
theorem over_not {L : Fo} {id : Int} (h : there L id = false) : over L id = [] := ch_stop h _
theorem up_cons {L : Fo} (hE : Ends L) {id : Int} (h : there L id = true) : up L id = id :: up L (par L id) := by
  show ch _ _ _ _ = _
  rw [ch, if_pos h]
  have := ch_stable (endsIn_par _ _ (hE.bound (par L id))) (L.length + 1) (by omega)
  unfold up; rw [this]
theorem over_cons {L : Fo} (hE : Ends L) {id : Int} (h : there L id = true) : over L id = id :: over L (over1 L id) := by
  show ch _ _ _ _ = _
  rw [ch, if_pos h]
  have := ch_stable (hE.bound (over1 L id)) (L.length + 1) (by omega)
  unfold over; rw [this]
theorem over_length {L : Fo} (hE : Ends L) (id : Int) : (over L id).length ≤ L.length := by
  have := ch_stable (hE.bound id) (L.length + 1) (by omega)
  unfold over; rw [this]; exact ch_length _ _
theorem up_length {L : Fo} (hE : Ends L) (id : Int) : (up L id).length ≤ L.length := by
  have := ch_stable (endsIn_par _ _ (hE.bound id)) (L.length + 1) (by omega)
  unfold up; rw [this]; exact ch_length _ _
theorem up_there {L : Fo} {id y : Int} (h : y ∈ up L id) : there L y = true := ch_mem _ _ _ h
theorem over_there {L : Fo} {id y : Int} (h : y ∈ over L id) : there L y = true := ch_mem _ _ _ h

/-- Induction along a chain. -/
theorem over_ind {L : Fo} (hE : Ends L) {P : Int → Prop} (h0 : ∀ id, there L id = false → P id) (h1 : ∀ id, there L id = true → P (over1 L id) → P id) (id : Int) : P id := by
  have : ∀ (k : Nat) (id : Int), endsIn (there L) (over1 L) k id → P id := by
    intro k
    induction k with
    | zero => exact fun id h => h0 id h
    | succ k ih =>
      intro id h
      by_cases ht : there L id = true
      · rcases h with h | h
        · rw [h] at ht; cases ht
        · exact h1 id ht (ih _ h)
      · exact h0 id (by simpa using ht)
  exact this _ _ (hE.bound id)

theorem up_ind {L : Fo} (hE : Ends L) {P : Int → Prop} (h0 : ∀ id, there L id = false → P id) (h1 : ∀ id, there L id = true → P (par L id) → P id) (id : Int) : P id := by
  have : ∀ (k : Nat) (id : Int), endsIn (there L) (par L) k id → P id := by
    intro k
    induction k with
    | zero => exact fun id h => h0 id h
    | succ k ih =>
      intro id h
      by_cases ht : there L id = true
      · rcases h with h | h
        · rw [h] at ht; cases ht
        · exact h1 id ht (ih _ h)
      · exact h0 id (by simpa using ht)
  exact this _ _ (endsIn_par _ _ (hE.bound id))

theorem mem_over_self {L : Fo} (hE : Ends L) {id : Int} (h : there L id = true) : id ∈ over L id := by rw [over_cons hE h]; exact List.mem_cons_self
theorem mem_up_self {L : Fo} (hE : Ends L) {id : Int} (h : there L id = true) : id ∈ up L id := by rw [up_cons hE h]; exact List.mem_cons_self

/-- What stands in a chain has its own chain as that one's end. -/
theorem over_suffix {L : Fo} (hE : Ends L) {a b : Int} (h : a ∈ over L b) : over L a <:+ over L b := by
  revert h
  refine over_ind hE (P := fun b => a ∈ over L b → over L a <:+ over L b) ?_ ?_ b
  · intro b hb h; rw [over_not hb] at h; cases h
  · intro b hb ih h
    rw [over_cons hE hb] at h ⊢
    rcases List.mem_cons.1 h with rfl | h
    · rw [← over_cons hE hb]; exact List.suffix_refl _
    · exact (ih h).trans (List.suffix_cons _ _)
theorem over_trans {L : Fo} (hE : Ends L) {a b c : Int} (h1 : a ∈ over L b) (h2 : b ∈ over L c) : a ∈ over L c := (over_suffix hE h2).subset h1
theorem over_antisymm {L : Fo} (hE : Ends L) {a b : Int} (h1 : a ∈ over L b) (h2 : b ∈ over L a) : a = b := by
  have s1 := over_suffix hE h1
  have s2 := over_suffix hE h2
  have e := s1.eq_of_length (Nat.le_antisymm s1.length_le s2.length_le)
  rw [over_cons hE (over_there h1), over_cons hE (over_there h2)] at e
  exact (List.cons.inj e).1
theorem up_sub_over {L : Fo} (hE : Ends L) (b : Int) : ∀ a, a ∈ up L b → a ∈ over L b := by
  refine up_ind hE (P := fun b => ∀ a, a ∈ up L b → a ∈ over L b) ?_ ?_ b
  · intro b hb a h; rw [up_not hb] at h; cases h
  · intro b hb ih a h
    rw [up_cons hE hb] at h
    rw [over_cons hE hb]
    rcases List.mem_cons.1 h with rfl | h
    · exact List.mem_cons_self
    · refine List.mem_cons_of_mem _ ?_
      by_cases hp : par L b = 0
      · rw [hp, up_not (there_zero L)] at h; cases h
      · unfold over1; rw [if_neg hp]; exact ih a h
theorem over_nodup {L : Fo} (hE : Ends L) (b : Int) : (over L b).Nodup := by
  refine over_ind hE (P := fun b => (over L b).Nodup) ?_ ?_ b
  · intro b hb; rw [over_not hb]; exact List.nodup_nil
  · intro b hb ih
    rw [over_cons hE hb, List.nodup_cons]
    refine ⟨fun h => ?_, ih⟩
    have := (over_suffix hE h).length_le
    rw [over_cons hE hb] at this
    simp only [List.length_cons] at this; omega

end Tc

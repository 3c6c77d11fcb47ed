/-
  The plain forest: tree order, slots, what is assigned, what is shown at last.
-/
import Derived.Test.YtidekbamlnpglaaPc
namespace Tc

/-! ## Tree order -/
def orderF (L : Fo) : Nat → Int → List Int
  | 0, _ => []
  | n + 1, id => if there L id = true then id :: (nd L id).kids.flatMap (orderF L n) else []
def dm (L : Fo) (id : Int) : Nat := L.length + 1 - (over L id).length
def order (L : Fo) (id : Int) : List Int := orderF L (dm L id) id

theorem dm_pos {L : Fo} (h : WF L) (id : Int) : 1 ≤ dm L id := by have := over_length h.ends id; unfold dm; omega
theorem dm_le (L : Fo) (id : Int) : dm L id ≤ L.length + 1 := by unfold dm; omega
theorem over_kid {L : Fo} (h : WF L) {p k : Int} (hk : k ∈ (nd L p).kids) : over L k = k :: over L p := by
  obtain ⟨h1, h2, h3⟩ := (h.kids_iff p k).1 hk
  rw [over_cons h.ends h1]
  unfold over1
  rw [if_neg (by rw [h2]; exact h3), h2]
theorem dm_kid {L : Fo} (h : WF L) {p k : Int} (hk : k ∈ (nd L p).kids) : dm L k + 1 = dm L p := by
  have h1 := over_kid h hk
  have h2 := over_length h.ends k
  unfold dm
  rw [h1] at h2 ⊢
  simp at h2 ⊢
  omega
theorem orderF_more {L : Fo} (h : WF L) : ∀ (n m : Nat) (id : Int), dm L id ≤ n → dm L id ≤ m → orderF L n id = orderF L m id
  | 0, _, id, h0, _ => by have := dm_pos h id; omega
  | _ + 1, 0, id, _, h0 => by have := dm_pos h id; omega
  | n + 1, m + 1, id, hn, hm => by
    unfold orderF
    split
    · congr 1
      rw [List.flatMap_def, List.flatMap_def]
      congr 1
      refine List.map_congr_left fun k hk => ?_
      have := dm_kid h hk
      exact orderF_more h n m k (by omega) (by omega)
    · rfl
theorem order_not {L : Fo} {id : Int} (h : there L id = false) : order L id = [] := by
  unfold order
  cases e : dm L id with
  | zero => rfl
  | succ n => unfold orderF; rw [if_neg (by rw [h]; simp)]
theorem order_cons {L : Fo} (h : WF L) {id : Int} (ht : there L id = true) : order L id = id :: (nd L id).kids.flatMap (order L) := by
  unfold order
  obtain ⟨n, hn⟩ : ∃ n, dm L id = n + 1 := ⟨dm L id - 1, by have := dm_pos h id; omega⟩
  rw [hn]
  conv => lhs; unfold orderF
  rw [if_pos ht]
  congr 1
  rw [List.flatMap_def, List.flatMap_def]
  congr 1
  refine List.map_congr_left fun k hk => ?_
  have := dm_kid h hk
  exact orderF_more h _ _ k (by omega) (Nat.le_refl _)
theorem up_kid {L : Fo} (h : WF L) {p k : Int} (hk : k ∈ (nd L p).kids) : up L k = k :: up L p := by
  obtain ⟨h1, h2, _⟩ := (h.kids_iff p k).1 hk
  rw [up_cons h.ends h1, h2]
/-- What is below a node, and nothing else, is in its tree order. -/
theorem mem_order {L : Fo} (h : WF L) : ∀ (n : Nat) (id x : Int), dm L id ≤ n → x ∈ order L id → there L x = true ∧ id ∈ up L x
  | 0, id, _, hn, _ => by have := dm_pos h id; omega
  | n + 1, id, x, hn, hx => by
    by_cases ht : there L id = true
    · rw [order_cons h ht] at hx
      rcases List.mem_cons.1 hx with rfl | hx
      · exact ⟨ht, mem_up_self h.ends ht⟩
      · obtain ⟨k, hk, hx⟩ := List.mem_flatMap.1 hx
        have hd := dm_kid h hk
        obtain ⟨h1, h2⟩ := mem_order h n k x (by omega) hx
        refine ⟨h1, ?_⟩
        -- k is in up x, id is just above k
        have key : ∀ y, there L y = true → k ∈ up L y → id ∈ up L y := by
          intro y
          refine up_ind h.ends (P := fun y => there L y = true → k ∈ up L y → id ∈ up L y) ?_ ?_ y
          · intro y h0 h1; rw [h0] at h1; cases h1
          · intro y hy ih _ hm
            rw [up_cons h.ends hy] at hm
            rcases List.mem_cons.1 hm with rfl | hm
            · rw [up_kid h hk]; exact List.mem_cons_of_mem _ (mem_up_self h.ends ht)
            · rw [up_cons h.ends hy]
              refine List.mem_cons_of_mem _ (ih ?_ hm)
              cases hp : there L (par L y) with
              | true => rfl
              | false => rw [up_not hp] at hm; cases hm
        exact key x h1 h2
    · rw [order_not (by simpa using ht)] at hx; cases hx

theorem up_suffix {L : Fo} (h : WF L) {a b : Int} (hm : a ∈ up L b) : up L a <:+ up L b := by
  revert hm
  refine up_ind h.ends (P := fun b => a ∈ up L b → up L a <:+ up L b) ?_ ?_ b
  · intro y h0 hm; rw [up_not h0] at hm; cases hm
  · intro y hy ih hm
    rw [up_cons h.ends hy] at hm ⊢
    rcases List.mem_cons.1 hm with rfl | hm
    · rw [up_cons h.ends hy]; exact List.suffix_refl _
    · exact (ih hm).trans (List.suffix_cons _ _)
theorem sibs {L : Fo} (h : WF L) {p a b x : Int} (ha : a ∈ (nd L p).kids) (hb : b ∈ (nd L p).kids) (h1 : a ∈ up L x) (h2 : b ∈ up L x) : a = b := by
  have ea := up_kid h ha
  have eb := up_kid h hb
  have sa := up_suffix h h1
  have sb := up_suffix h h2
  have hl : (up L a).length = (up L b).length := by rw [ea, eb]; simp
  have : up L a = up L b := List.IsSuffix.eq_of_length (List.suffix_of_suffix_length_le sa sb (by omega)) hl
  rw [ea, eb] at this
  exact (List.cons.inj this).1
theorem nodup_flat {ls : List (List Int)} : ls.flatten.Nodup ↔ (∀ l ∈ ls, l.Nodup) ∧ ls.Pairwise (fun a b => ∀ x, x ∈ a → x ∈ b → False) := by
  induction ls with
  | nil => simp
  | cons l r ih =>
    rw [List.flatten_cons, List.nodup_append, ih, List.pairwise_cons]
    constructor
    · rintro ⟨h1, ⟨h2, h3⟩, h4⟩
      refine ⟨?_, ?_, h3⟩
      · intro y hy
        rcases List.mem_cons.1 hy with rfl | hy
        · exact h1
        · exact h2 y hy
      · intro b hb x hx hxb
        exact h4 x hx x (List.mem_flatten.2 ⟨b, hb, hxb⟩) rfl
    · rintro ⟨h1, h2, h3⟩
      refine ⟨h1 l List.mem_cons_self, ⟨fun y hy => h1 y (List.mem_cons_of_mem _ hy), h3⟩, ?_⟩
      intro a ha b hb e
      subst e
      obtain ⟨m, hm, hx⟩ := List.mem_flatten.1 hb
      exact h2 m hm a ha hx
theorem order_nodup {L : Fo} (h : WF L) : ∀ (n : Nat) (id : Int), dm L id ≤ n → (order L id).Nodup
  | 0, id, hn => by have := dm_pos h id; omega
  | n + 1, id, hn => by
    by_cases ht : there L id = true
    · rw [order_cons h ht, List.nodup_cons]
      refine ⟨?_, ?_⟩
      · intro hm
        obtain ⟨k, hk, hx⟩ := List.mem_flatMap.1 hm
        obtain ⟨_, hu⟩ := mem_order h _ _ _ (Nat.le_refl _) hx
        have e := up_kid h hk
        have s := (up_suffix h hu).length_le
        rw [e] at s
        simp at s; omega
      · rw [List.flatMap_def, nodup_flat]
        refine ⟨?_, ?_⟩
        · intro l hl
          obtain ⟨k, hk, rfl⟩ := List.mem_map.1 hl
          have := dm_kid h hk
          exact order_nodup h n k (by omega)
        · rw [List.pairwise_map]
          refine (h.kids_nodup id).imp_of_mem ?_
          intro a b ha hb hab x hxa hxb
          exact hab (sibs h ha hb (mem_order h _ _ _ (Nat.le_refl _) hxa).2 (mem_order h _ _ _ (Nat.le_refl _) hxb).2)
    · rw [order_not (by simpa using ht)]; exact List.nodup_nil
theorem order_length {L : Fo} (h : WF L) (id : Int) : (order L id).length ≤ L.length :=
  nodup_len (order_nodup h _ _ (Nat.le_refl _)) fun x hx => there_iff.1 (mem_order h _ _ _ (Nat.le_refl _) hx).1

/-! ## Slots -/
def slots (L : Fo) (r : Int) : List Int := (order L r).filter fun x => (nd L x).slot
def slotOf (L : Fo) (id : Int) : Int :=
  if there L (par L id) = false ∨ (nd L id).kind ≠ 2 ∨ (nd L (par L id)).shadow = 0 then 0
  else ((slots L (nd L (par L id)).shadow).find? fun s => decide ((nd L s).name = (nd L id).want)).getD 0
def assigned (L : Fo) (s : Int) : List Int :=
  if there L (hst L (root L s)) = false then [] else (nd L (hst L (root L s))).kids.filter fun x => decide (slotOf L x = s)
def shownB (L : Fo) (id : Int) : Bool := (nd L id).slot && decide ((nd L (root L id)).kind = 3)
def onceL (L : Fo) (s : Int) : List Int := if assigned L s = [] then (nd L s).kids.filter (fun x => decide ((nd L x).kind = 2)) else assigned L s
def flatF (L : Fo) : Nat → Int → List Int
  | 0, _ => []
  | n + 1, s => if shownB L s = true then (onceL L s).flatMap fun x => if shownB L x = true then flatF L n x else [x] else []
def fm (L : Fo) (s : Int) : Nat := (roots L s).length * 200 + dm L s
def flat (L : Fo) (s : Int) : List Int := flatF L (fm L s) s

theorem slotOf_mem {L : Fo} {id s : Int} (h : slotOf L id = s) (h0 : s ≠ 0) : there L (par L id) = true ∧ (nd L id).kind = 2 ∧ (nd L (par L id)).shadow ≠ 0 ∧ s ∈ slots L (nd L (par L id)).shadow ∧ (nd L s).name = (nd L id).want := by
  unfold slotOf at h
  split at h
  · exact absurd h.symm h0
  · rename_i hn
    simp only [not_or] at hn
    obtain ⟨a, b, c⟩ := hn
    cases hf : (slots L (nd L (par L id)).shadow).find? (fun s => decide ((nd L s).name = (nd L id).want)) with
    | none => rw [hf] at h; exact absurd h.symm h0
    | some y =>
      rw [hf] at h
      obtain rfl : y = s := h
      refine ⟨by simpa using a, by simpa using b, c, List.mem_of_find?_eq_some hf, ?_⟩
      have := List.find?_some hf
      simpa using this
theorem root_of_up {L : Fo} (h : WF L) {r : Int} (hr : par L r = 0) {x : Int} (hx : there L x = true) (hm : r ∈ up L x) : root L x = r := by
  revert hx hm
  refine up_ind h.ends (P := fun x => there L x = true → r ∈ up L x → root L x = r) ?_ ?_ x
  · intro y h0 h1; rw [h0] at h1; cases h1
  · intro y hy ih _ hm
    rw [root_step h hy]
    rw [up_cons h.ends hy] at hm
    rcases List.mem_cons.1 hm with rfl | hm
    · rw [if_pos hr]
    · have hp : there L (par L y) = true := by
        cases hp : there L (par L y) with
        | true => rfl
        | false => rw [up_not hp] at hm; cases hm
      rw [if_neg (fun e => by rw [e, there_zero] at hp; cases hp)]
      exact ih hp hm
/-- Where a node's slot is. -/
theorem slotOf_root {L : Fo} (h : WF L) {id s : Int} (hs : slotOf L id = s) (h0 : s ≠ 0) : there L s = true ∧ (nd L s).slot = true ∧ root L s = (nd L (par L id)).shadow ∧ hst L (root L s) = par L id ∧ (nd L (root L s)).kind = 3 := by
  obtain ⟨h1, h2, h3, h4, _⟩ := slotOf_mem hs h0
  obtain ⟨h5, h6⟩ := List.mem_filter.1 h4
  obtain ⟨h7, h8⟩ := mem_order h _ _ _ (Nat.le_refl _) h5
  have hp : par L id ≠ 0 := fun e => by rw [e, there_zero] at h1; cases h1
  have ht := (h.tied (par L id) _ hp h3).1 rfl
  have hk := h.hst_kind _ (by rw [ht]; exact hp)
  have hr := root_of_up h (h.rooted _ (Or.inr hk)) h7 h8
  exact ⟨h7, h6, hr, by rw [hr]; exact ht, by rw [hr]; exact hk⟩
theorem mem_assigned {L : Fo} (h : WF L) {id s : Int} (h0 : s ≠ 0) : id ∈ assigned L s ↔ slotOf L id = s := by
  unfold assigned
  constructor
  · split
    · intro hm; cases hm
    · intro hm
      simpa using (List.mem_filter.1 hm).2
  · intro hs
    obtain ⟨h1, h2, h3, h4, h5⟩ := slotOf_root h hs h0
    obtain ⟨g1, g2, _⟩ := slotOf_mem hs h0
    rw [h4, if_neg (by rw [g1]; simp)]
    refine List.mem_filter.2 ⟨(h.kids_iff _ _).2 ⟨?_, rfl, fun e => by rw [e, there_zero] at g1; cases g1⟩, by simpa using hs⟩
    cases ht : there L id with
    | true => rfl
    | false => rw [nd_not ht] at g2; cases g2
theorem assigned_zero {L : Fo} : assigned L 0 = [] := by
  unfold assigned
  have e : hst L (root L 0) = 0 := by rw [root_zero (there_zero L)]; unfold hst; rw [nd_not (there_zero L)]
  rw [e, if_pos (there_zero L)]
theorem mem_assigned' {L : Fo} (h : WF L) {x s : Int} (hx : x ∈ assigned L s) : there L x = true ∧ there L (hst L (root L s)) = true ∧ x ∈ (nd L (hst L (root L s))).kids ∧ par L x = hst L (root L s) ∧ slotOf L x = s := by
  unfold assigned at hx
  split at hx
  · cases hx
  · rename_i hn
    obtain ⟨h1, h2⟩ := List.mem_filter.1 hx
    obtain ⟨h3, h4, _⟩ := (h.kids_iff _ _).1 h1
    exact ⟨h3, by simpa using hn, h1, h4, by simpa using h2⟩

theorem roots_kid {L : Fo} (h : WF L) {p k : Int} (hk : k ∈ (nd L p).kids) : roots L k = roots L p := by
  unfold roots
  obtain ⟨_, h2, h3⟩ := (h.kids_iff p k).1 hk
  rw [over_kid h hk, List.filter_cons, if_neg (by rw [h2]; simpa using h3)]
theorem fm_once {L : Fo} (h : WF L) {s x : Int} (hs : shownB L s = true) (hx : x ∈ onceL L s) : fm L x + 1 ≤ fm L s := by
  have hl := h.len
  unfold onceL at hx
  split at hx
  · have hk := (List.mem_filter.1 hx).1
    unfold fm
    rw [roots_kid h hk]
    have := dm_kid h hk
    omega
  · obtain ⟨_, h2, h3, _, _⟩ := mem_assigned' h hx
    have hst' : there L s = true := by
      cases ht : there L s with
      | true => rfl
      | false => unfold shownB at hs; rw [nd_not ht] at hs; cases hs
    unfold fm
    rw [roots_kid h h3, roots_cons h hst', outH_eq h]
    have := dm_le L x
    simp
    omega
theorem flatF_more {L : Fo} (h : WF L) : ∀ (n m : Nat) (s : Int), fm L s ≤ n → fm L s ≤ m → flatF L n s = flatF L m s
  | 0, _, s, h0, _ => by have := dm_pos h s; unfold fm at h0; omega
  | _ + 1, 0, s, _, h0 => by have := dm_pos h s; unfold fm at h0; omega
  | n + 1, m + 1, s, hn, hm => by
    unfold flatF
    split
    · rename_i hs
      rw [List.flatMap_def, List.flatMap_def]
      congr 1
      refine List.map_congr_left fun k hk => ?_
      have := fm_once h hs hk
      rw [flatF_more h n m k (by omega) (by omega)]
    · rfl
theorem flat_not {L : Fo} {s : Int} (h : shownB L s = false) : flat L s = [] := by
  unfold flat
  cases e : fm L s with
  | zero => rfl
  | succ n => unfold flatF; rw [if_neg (by rw [h]; simp)]
theorem flat_eq {L : Fo} (h : WF L) {s : Int} (hs : shownB L s = true) : flat L s = (onceL L s).flatMap fun x => if shownB L x = true then flat L x else [x] := by
  unfold flat
  obtain ⟨n, hn⟩ : ∃ n, fm L s = n + 1 := ⟨fm L s - 1, by have := dm_pos h s; unfold fm; omega⟩
  rw [hn]
  conv => lhs; unfold flatF
  rw [if_pos hs, List.flatMap_def, List.flatMap_def]
  congr 1
  refine List.map_congr_left fun k hk => ?_
  have := fm_once h hs hk
  rw [flatF_more h n (fm L k) k (by omega) (Nat.le_refl _)]
/-- What is shown at last. -/
theorem mem_flat {L : Fo} (h : WF L) : ∀ (n : Nat) (s x : Int), fm L s ≤ n → x ∈ flat L s → there L x = true ∧ (nd L x).kind = 2 ∧ shownB L x = false ∧ (nd L s).slot = true
  | 0, s, _, h0, _ => by have := dm_pos h s; unfold fm at h0; omega
  | n + 1, s, x, hn, hx => by
    cases hs : shownB L s with
    | false => rw [flat_not hs] at hx; cases hx
    | true =>
      have hsl : (nd L s).slot = true := by unfold shownB at hs; rw [Bool.and_eq_true] at hs; exact hs.1
      rw [flat_eq h hs] at hx
      obtain ⟨y, hy, hx⟩ := List.mem_flatMap.1 hx
      have hm := fm_once h hs hy
      by_cases hb : shownB L y = true
      · rw [if_pos hb] at hx
        obtain ⟨a, b, c, _⟩ := mem_flat h n y x (by omega) hx
        exact ⟨a, b, c, hsl⟩
      · rw [if_neg hb, List.mem_singleton] at hx
        subst hx
        refine ⟨?_, ?_, by simpa using hb, hsl⟩
        · unfold onceL at hy
          split at hy
          · exact h.there_of_kid (List.mem_filter.1 hy).1
          · exact (mem_assigned' h hy).1
        · unfold onceL at hy
          split at hy
          · simpa using (List.mem_filter.1 hy).2
          · have hq := (mem_assigned' h hy).2.2.2.2
            have h0 : s ≠ 0 := fun e => by rw [e, nd_not (there_zero L)] at hsl; cases hsl
            exact (slotOf_mem hq h0).2.1

/-- A part of a list without doubles keeps the list's order. -/
theorem idx_inc {K : List Int} (hK : K.Nodup) (p : Int → Bool) {i j : Nat} (hij : i < j) (hj : j < (K.filter p).length) : K.idxOf ((K.filter p).getD i 0) < K.idxOf ((K.filter p).getD j 0) := by
  have h1 : K.Pairwise fun a b => K.idxOf a < K.idxOf b := by
    rw [List.pairwise_iff_getElem]
    intro a b ha hb hab
    rw [hK.idxOf_getElem a ha, hK.idxOf_getElem b hb]
    exact hab
  have h2 := h1.sublist (List.filter_sublist (p := p))
  rw [List.pairwise_iff_getElem] at h2
  have := h2 i j (by omega) hj hij
  simpa [List.getD, List.getElem?_eq_getElem hj, List.getElem?_eq_getElem (show i < (K.filter p).length by omega)] using this

end Tc

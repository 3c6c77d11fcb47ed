/-
  The plain forest: what stands in a slot's place is gone through once.
-/
import Derived.Test.YtidekbamlnpglaaPp
namespace Tc

theorem once_key {L : Fo} (h : WF L) {s x : Int} (hs : shownB L s = true) (hx : x ∈ onceL L s) : key L x < key L s ∧ there L x = true ∧ ((slotOf L x = s ∧ s ≠ 0) ∨ par L x = s) ∧ (∃ r, r ∈ over L s ∧ root L x = r) := by
  have hst' : there L s = true := by
    cases ht : there L s with
    | true => rfl
    | false => unfold shownB at hs; rw [nd_not ht] at hs; cases hs
  have h0 : s ≠ 0 := fun e => by rw [e, there_zero] at hst'; cases hst'
  unfold onceL at hx
  split at hx
  · have hk := (List.mem_filter.1 hx).1
    obtain ⟨k1, k2, k3⟩ := (h.kids_iff s x).1 hk
    have ho : over1 L x = s := by unfold over1; rw [if_neg (by rw [k2]; exact k3), k2]
    have q := over1_key h k1 (by rw [ho]; exact h0)
    rw [ho] at q
    refine ⟨q, k1, Or.inr k2, root L s, up_sub_over h.ends _ _ (root_there h hst').2.2, ?_⟩
    rw [root_step h k1, if_neg (by rw [k2]; exact k3), k2]
  · obtain ⟨a1, a2, a3, a4, a5⟩ := mem_assigned' h hx
    have hp : parentE L 0 true x = s := by
      unfold parentE; rw [if_neg (by rw [a1]; simp), if_pos (by rw [a5]; exact h0), a5]
    have q := key_step h (first := 0) (c := true) (x := x) (by rw [hp]; exact h0)
    rw [hp] at q
    have hp0 : par L x ≠ 0 := ((h.kids_iff _ x).1 a3).2.1 ▸ ((h.kids_iff _ x).1 a3).2.2
    refine ⟨q, a1, Or.inl ⟨a5, h0⟩, root L (par L x), ?_, ?_⟩
    · have e := over_up h hst'
      rw [outH_eq h, ← a4] at e
      rw [e]
      refine List.mem_append_right _ (up_sub_over h.ends _ _ (root_there h (h.par_there x hp0)).2.2)
    · rw [root_step h a1, if_neg hp0]

inductive Reach (L : Fo) (s : Int) : Int → Prop
  | refl : Reach L s s
  | step {z y : Int} : Reach L s z → shownB L z = true → y ∈ onceL L z → Reach L s y

theorem Reach.trans {L : Fo} {a b c : Int} (h : Reach L a b) (k : Reach L b c) : Reach L a c := by
  induction k with
  | refl => exact h
  | step _ hz hy ih => exact ih.step hz hy
theorem Reach.key {L : Fo} (h : WF L) {s y : Int} (r : Reach L s y) : y = s ∨ Tc.key L y < Tc.key L s := by
  induction r with
  | refl => exact Or.inl rfl
  | step _ hz hy ih =>
    right
    have := (once_key h hz hy).1
    rcases ih with e | ih
    · rw [← e]; exact this
    · omega
theorem shown_there {L : Fo} {s : Int} (hs : shownB L s = true) : there L s = true := by
  cases ht : there L s with
  | true => rfl
  | false => unfold shownB at hs; rw [nd_not ht] at hs; cases hs
theorem Reach.root {L : Fo} (h : WF L) {s y : Int} (r : Reach L s y) (ht : there L s = true) : there L y = true ∧ Tc.root L y ∈ over L s := by
  induction r with
  | refl => exact ⟨ht, up_sub_over h.ends _ _ (root_there h ht).2.2⟩
  | step _ hz hy ih =>
    obtain ⟨_, k2, _, r, k4, k5⟩ := once_key h hz hy
    refine ⟨k2, ?_⟩
    rw [k5]
    -- r stands above z, and z's root above s
    have hzr := root_there h ih.1
    have hz2 : ∀ q, q ∈ over L _ → par L q = 0 → q ∈ over L s := fun q hq hq0 => by
      have e := over_up h ih.1
      rw [e] at hq
      rcases List.mem_append.1 hq with hq | hq
      · rw [← root_of_up h hq0 ih.1 hq]; exact ih.2
      · refine over_trans h.ends ?_ ih.2
        rw [over_cons h.ends hzr.1]
        refine List.mem_cons_of_mem _ ?_
        unfold over1; rw [if_pos hzr.2.1, ← outH_eq h]; exact hq
    exact hz2 r k4 (by rw [← k5]; exact (root_there h k2).2.1)
/-- What is reached has one that is ahead of it, and no other. -/
theorem Reach.one {L : Fo} (h : WF L) {s a b y : Int} (ht : there L s = true) (ra : Reach L s a) (rb : Reach L s b) (ha : shownB L a = true) (hb : shownB L b = true) (ya : y ∈ onceL L a) (yb : y ∈ onceL L b) : a = b := by
  have key : ∀ (a b : Int), Reach L s a → Reach L s b → shownB L a = true → slotOf L y = a → a ≠ 0 → par L y = b → False := fun a b ra rb ha e1 a0 e2 => by
    obtain ⟨s1, s2, s3, s4, s5⟩ := slotOf_root h e1 a0
    obtain ⟨_, hra⟩ := ra.root h ht
    have hrt := (root_there h s1)
    have ho : over1 L (Tc.root L a) = b := by unfold over1; rw [if_pos hrt.2.1, s4, e2]
    have hb0 : b ≠ 0 := by rw [← e2]; exact (slotOf_self h (x := y) (by rw [e1]; exact a0)).2.1
    have hbt : there L b = true := (rb.root h ht).1
    have hbs : b ∈ over L s := by
      refine over_trans h.ends ?_ hra
      rw [over_cons h.ends hrt.1, ho]
      exact List.mem_cons_of_mem _ (mem_over_self h.ends hbt)
    rcases rb.key h with e | hk
    · have h1 := (over_suffix h.ends hra).length_le
      rw [over_cons h.ends hrt.1, ho, e] at h1
      simp at h1; omega
    · rcases key_below h hbs with e | hk2
      · rw [e] at hk; omega
      · omega
  rcases (once_key h ha ya).2.2.1 with ⟨e1, a0⟩ | e1 <;> rcases (once_key h hb yb).2.2.1 with ⟨e2, b0⟩ | e2
  · rw [← e1, ← e2]
  · exact (key a b ra rb ha e1 a0 e2).elim
  · exact (key b a rb ra hb e2 b0 e1).elim
  · rw [← e1, ← e2]
theorem Reach.apart {L : Fo} (h : WF L) {s x1 x2 y : Int} (hs : shownB L s = true) (h1 : x1 ∈ onceL L s) (h2 : x2 ∈ onceL L s) (r1 : Reach L x1 y) (r2 : Reach L x2 y) : x1 = x2 := by
  have ht := shown_there hs
  have hx1 : Reach L s x1 := Reach.refl.step hs h1
  have hx2 : Reach L s x2 := Reach.refl.step hs h2
  have no : ∀ x, x ∈ onceL L s → ¬ Reach L x s := fun x hx r => by
    have := (once_key h hs hx).1
    rcases r.key h with e | hk
    · rw [e] at this; omega
    · omega
  induction r1 with
  | refl =>
    cases r2 with
    | refl => rfl
    | step r hz hy =>
      have e := Reach.one h ht Reach.refl (hx2.trans r) hs hz h1 hy
      rw [← e] at r
      exact (no x2 h2 r).elim
  | step r hz hy ih =>
    cases r2 with
    | refl =>
      have e := Reach.one h ht Reach.refl (hx1.trans r) hs hz h2 hy
      rw [← e] at r
      exact (no x1 h1 r).elim
    | step r' hz' hy' =>
      have e := Reach.one h ht (hx1.trans r) (hx2.trans r') hz hz' hy hy'
      rw [← e] at r'
      exact ih r'

/-- All that is gone through. -/
def travF (L : Fo) : Nat → Int → List Int
  | 0, s => [s]
  | n + 1, s => s :: if shownB L s = true then (onceL L s).flatMap (travF L n) else []
def trav (L : Fo) (s : Int) : List Int := travF L (fm L s) s
theorem fm_pos {L : Fo} (h : WF L) (s : Int) : 1 ≤ fm L s := by have := dm_pos h s; unfold fm; omega
theorem travF_more {L : Fo} (h : WF L) : ∀ (n m : Nat) (s : Int), fm L s ≤ n → fm L s ≤ m → travF L n s = travF L m s
  | 0, _, s, h0, _ => by have := fm_pos h s; omega
  | _ + 1, 0, s, _, h0 => by have := fm_pos h s; omega
  | n + 1, m + 1, s, hn, hm => by
    unfold travF
    congr 1
    split
    · rename_i hs
      rw [List.flatMap_def, List.flatMap_def]
      congr 1
      refine List.map_congr_left fun k hk => ?_
      have := fm_once h hs hk
      exact travF_more h n m k (by omega) (by omega)
    · rfl
theorem trav_eq {L : Fo} (h : WF L) (s : Int) : trav L s = s :: if shownB L s = true then (onceL L s).flatMap (trav L) else [] := by
  unfold trav
  obtain ⟨n, hn⟩ : ∃ n, fm L s = n + 1 := ⟨fm L s - 1, by have := fm_pos h s; omega⟩
  rw [hn]
  conv => lhs; unfold travF
  congr 1
  split
  · rename_i hs
    rw [List.flatMap_def, List.flatMap_def]
    congr 1
    refine List.map_congr_left fun k hk => ?_
    have := fm_once h hs hk
    exact travF_more h _ _ k (by omega) (Nat.le_refl _)
  · rfl
theorem trav_reach {L : Fo} (h : WF L) : ∀ (n : Nat) (s y : Int), fm L s ≤ n → y ∈ trav L s → Reach L s y
  | 0, s, _, h0, _ => by have := fm_pos h s; omega
  | n + 1, s, y, hn, hy => by
    rw [trav_eq h] at hy
    rcases List.mem_cons.1 hy with rfl | hy
    · exact Reach.refl
    · split at hy
      · rename_i hs
        obtain ⟨x, hx, hy⟩ := List.mem_flatMap.1 hy
        have := fm_once h hs hx
        exact (Reach.refl.step hs hx).trans (trav_reach h n x y (by omega) hy)
      · cases hy
theorem assigned_nodup {L : Fo} (h : WF L) (s : Int) : (assigned L s).Nodup := by
  unfold assigned
  split
  · exact List.nodup_nil
  · exact (h.kids_nodup _).sublist List.filter_sublist
theorem onceL_nodup {L : Fo} (h : WF L) (s : Int) : (onceL L s).Nodup := by
  unfold onceL
  split
  · exact (h.kids_nodup _).sublist List.filter_sublist
  · exact assigned_nodup h s
theorem trav_nodup {L : Fo} (h : WF L) : ∀ (n : Nat) (s : Int), fm L s ≤ n → (trav L s).Nodup
  | 0, s, h0 => by have := fm_pos h s; omega
  | n + 1, s, hn => by
    rw [trav_eq h, List.nodup_cons]
    split
    · rename_i hs
      refine ⟨fun hm => ?_, ?_⟩
      · obtain ⟨x, hx, hy⟩ := List.mem_flatMap.1 hm
        have h1 := (once_key h hs hx).1
        rcases (trav_reach h _ _ _ (Nat.le_refl _) hy).key h with e | hk
        · rw [e] at h1; omega
        · omega
      · rw [List.flatMap_def, nodup_flat]
        refine ⟨fun l hl => ?_, ?_⟩
        · obtain ⟨x, hx, rfl⟩ := List.mem_map.1 hl
          have := fm_once h hs hx
          exact trav_nodup h n x (by omega)
        · rw [List.pairwise_map]
          refine (onceL_nodup h s).imp_of_mem ?_
          intro a b ha hb hab y hya hyb
          exact hab (Reach.apart h hs ha hb (trav_reach h _ _ _ (Nat.le_refl _) hya) (trav_reach h _ _ _ (Nat.le_refl _) hyb))
    · exact ⟨by simp, List.nodup_nil⟩
theorem trav_length {L : Fo} (h : WF L) {s : Int} (ht : there L s = true) : (trav L s).length ≤ L.length :=
  nodup_len (trav_nodup h _ _ (Nat.le_refl _)) fun x hx => there_iff.1 ((trav_reach h _ _ _ (Nat.le_refl _) hx).root h ht).1

/-- What is shown at last of one thing. -/
def leaf (L : Fo) (x : Int) : List Int := if shownB L x = true then flat L x else [x]
theorem flat_leaf {L : Fo} (h : WF L) {s : Int} (hs : shownB L s = true) : flat L s = (onceL L s).flatMap (leaf L) := flat_eq h hs
theorem flatMap_le {f g : Int → List Int} : ∀ (l : List Int), (∀ x, x ∈ l → (f x).length ≤ (g x).length) → (l.flatMap f).length ≤ (l.flatMap g).length
  | [], _ => by simp
  | x :: l, hle => by
    have h1 := hle x List.mem_cons_self
    have h2 := flatMap_le (f := f) (g := g) l (fun y hy => hle y (List.mem_cons_of_mem _ hy))
    simp only [List.flatMap_cons, List.length_append]; omega
theorem leaf_trav {L : Fo} (h : WF L) : ∀ (n : Nat) (s : Int), fm L s ≤ n → (leaf L s).length ≤ (trav L s).length
  | 0, s, h0 => by have := fm_pos h s; omega
  | n + 1, s, hn => by
    unfold leaf
    rw [trav_eq h]
    split
    · rename_i hs
      rw [flat_leaf h hs]
      have := flatMap_le (f := leaf L) (g := trav L) (onceL L s) (fun x hx => by
        have := fm_once h hs hx
        exact leaf_trav h n x (by omega))
      simp only [List.length_cons]; omega
    · simp
theorem flat_length {L : Fo} (h : WF L) (s : Int) : (flat L s).length ≤ L.length := by
  cases hs : shownB L s with
  | false => rw [flat_not hs]; simp
  | true =>
    have h1 := leaf_trav h _ s (Nat.le_refl _)
    unfold leaf at h1
    rw [if_pos hs] at h1
    exact Nat.le_trans h1 (trav_length h (shown_there hs))
end Tc

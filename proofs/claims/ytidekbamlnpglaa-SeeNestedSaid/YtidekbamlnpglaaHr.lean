/-
  A region whose order is drawn, where the last operation alone writes what the others read: the reading operations may be taken first.
-/
import Derived.Test.YtidekbamlnpglaaHb
import Derived.OrdersHeld
import Derived.Deep.RegionHeld
namespace Go.Proofs.Ytidekbamlnpglaa
open Go.RowKit Tc

section
variable {P : Program} {ops : Array Oper} {Q : Exit → Act → World → Prop} {md : Region.Mode} {S : World → Prop} {z : Nat}

/-- Whatever order is picked; S holds behind each operation but number z. -/
def anyBut (P : Program) (md : Region.Mode) (ops : Array Oper) (Q : Exit → Act → World → Prop) (S : World → Prop) (z : Nat) : Nat → Array Bool → Act → World → Prop
  | 0, l, a, w => Region.ready md ops l = [] ∧ Q .normal a w
  | f + 1, l, a, w => (Region.ready md ops l = [] → Q .normal a w) ∧ ∀ i ∈ Region.ready md ops l, wpOp P ops Q i (fun a' w' => (i ≠ z → S w') ∧ anyBut P md ops Q S z f (l.setIfInBounds i true) a' w') a w

theorem any_of_but : ∀ (f : Nat) (l : Array Bool) (a : Act) (w : World), anyBut P md ops Q S z f l a w → wpAny P md ops Q f l a w
  | 0, _, _, _, h => h
  | f + 1, _, _, _, h => ⟨h.1, fun i hi => wpOp_mono (fun a' w' h' => any_of_but f _ a' w' h'.2) (h.2 i hi)⟩

theorem region_but {id : Nat} {a : Act} {w : World} (hm : P.follows .mixedOrders = true) (n : Nat) (l : Array Bool) (hn : ops.size = n) (hl : Array.replicate n false = l)
    (h : anyBut P .any ops Q S z n l a w.drew) : (Code.region id ops true).wp P Q a w := by
  subst hl; subst hn
  exact wp_region_any hm (any_of_but _ _ _ _ h)

theorem unlisted {l : Array Bool} {i : Nat} (h0 : l.getD i true = false) (h1 : l.getD i false = true) : False := by
  rcases Nat.lt_or_ge i l.size with h' | h'
  · simp [h'] at h0 h1; rw [h0] at h1; cases h1
  · simp [Array.getElem?_eq_none h'] at h1

/-- Number i may be taken first: it yields its value in every world that meets S; number z waits for it. -/
theorem but_first {i : Nat} {oi oz : Oper} {v : Value} (hi : ops[i]? = some oi) (hz : ops[z]? = some oz) (hzi : ∃ e ∈ oz.after, Region.binds md e = true ∧ e.on = i)
    (hsel : ∀ (j : Nat) (o : Oper) cs b, ops[j]? = some o → o.op ≠ .select cs b) (hQ : ∀ c a w, Q (.panic c) (a.put oi.dst v) w → Q (.panic c) a w) :
    ∀ (f : Nat) (l : Array Bool) (a : Act) (w : World),
      (∀ j oj, ops[j]? = some oj → j ≠ i → l.getD j true = false → (∀ e ∈ oj.after, Region.binds md e = true → e.on ≠ i) → oi.apart ops oj = true) →
      i ∈ Region.ready md ops l → YieldsIf P ops S oi v a → S w →
      anyBut P md ops Q S z f (l.setIfInBounds i true) (a.put oi.dst v) w → anyBut P md ops Q S z (f + 1) l a w := by
  intro f
  induction f with
  | zero =>
    intro l a w _ hr hy hS H
    refine ⟨fun h => (by rw [h] at hr; cases hr), fun j hj => ?_⟩
    by_cases hji : j = i
    · subst hji; exact hy.wpOp hi hS ⟨fun _ => hS, H⟩
    · have := ready_mono hj hji
      rw [H.1] at this
      cases this
  | succ f ih =>
    intro l a w hfree hr hy hS H
    refine ⟨fun h => (by rw [h] at hr; cases hr), fun j hj => ?_⟩
    by_cases hji : j = i
    · subst hji; exact hy.wpOp hi hS ⟨fun _ => hS, H⟩
    · obtain ⟨hjun, oj, hoj, hall⟩ := mem_ready.1 hj
      have h0 := (mem_ready.1 hr).1
      have hjz : j ≠ z := fun e => by
        subst e
        rw [hz] at hoj; cases hoj
        obtain ⟨e, he, hb, hon⟩ := hzi
        have := hall e he hb
        rw [hon] at this
        exact unlisted h0 this
      have h1 := H.2 j (ready_mono hj hji)
      have hnot : ∀ e ∈ oj.after, Region.binds md e = true → e.on ≠ i := fun e he hb heq => by
        have h1 := hall e he hb
        rw [heq] at h1
        exact unlisted h0 h1
      have h2 := wpOp_putIf hoj (hfree j oj hoj hji hjun hnot) (fun cs b => hsel i oi cs b hi) (fun cs b => hsel j oj cs b hoj) hQ hy h1
      have hfree' : ∀ k ok, ops[k]? = some ok → k ≠ i → (l.setIfInBounds j true).getD k true = false →
          (∀ e ∈ ok.after, Region.binds md e = true → e.on ≠ i) → oi.apart ops ok = true := fun k ok hk hki hun hno => by
        refine hfree k ok hk hki ?_ hno
        by_cases hjk : j = k
        · subst hjk; exact hjun
        · rw [getD_set_ne true hjk] at hun; exact hun
      refine wpOp_mono (fun a' w' h3 => ⟨h3.2.1, ih (l.setIfInBounds j true) a' w' hfree' (ready_mono hr (Ne.symm hji)) h3.1 (h3.2.1 hjz) ?_⟩) h2
      rw [Array.setIfInBounds_comm _ _ hji]
      exact h3.2.2

/-- Does z wait for i? -/
def zWaits (md : Region.Mode) (ops : Array Oper) (z i : Nat) : Bool := match ops[z]? with
  | some oz => oz.after.any fun e => Region.binds md e && e.on == i
  | none => false

theorem but_take {i : Nat} {oi : Oper} {v : Value} {f : Nat} {l : Array Bool} {a : Act} {w : World} (hi : ops[i]? = some oi) (hz : zWaits md ops z i = true)
    (hs : Region.noSelect ops = true) (hf : Region.free md ops l i = true) (hr : (Region.ready md ops l).contains i = true)
    (hQ : ∀ c a w, Q (.panic c) (a.put oi.dst v) w → Q (.panic c) a w) (hy : YieldsIf P ops S oi v a) (hS : S w)
    (h : anyBut P md ops Q S z f (l.setIfInBounds i true) (a.put oi.dst v) w) : anyBut P md ops Q S z (f + 1) l a w := by
  unfold zWaits at hz
  split at hz
  · rename_i oz hoz
    obtain ⟨e, he, hb⟩ := Array.any_eq_true'.1 hz
    simp only [Bool.and_eq_true, beq_iff_eq] at hb
    exact but_first hi hoz ⟨e, he, hb.1, hb.2⟩ (Region.noSelect_spec hs) hQ f l a w (Region.free_spec hi hf) (by simpa using hr) hy hS h
  · cases hz

/-- One alone may come up. -/
theorem but_one {i : Nat} {o : Oper} {f : Nat} {l : Array Bool} {a : Act} {w : World} (hi : ops[i]? = some o) (hr : Region.ready md ops l = [i])
    (h : if Region.wanted o (yielded ops a.tmps) = true then o.wp P a w (fun a' w' => (i ≠ z → S w') ∧ anyBut P md ops Q S z f (l.setIfInBounds i true) a' w') Q else ((i ≠ z → S w) ∧ anyBut P md ops Q S z f (l.setIfInBounds i true) (a.put o.dst undef) w)) :
    anyBut P md ops Q S z (f + 1) l a w := by
  refine ⟨(fun h0 => by rw [hr] at h0; cases h0), fun j hj => ?_⟩
  rw [hr] at hj
  obtain rfl : j = i := by simpa using hj
  unfold wpOp
  simp only [hi]
  split
  · rename_i hw; rw [if_pos hw] at h; exact Or.inl h
  · rename_i hw; rw [if_neg hw] at h; exact h

theorem but_take' {os : List Oper} {i : Nat} {oi : Oper} (v : Value) {f : Nat} {l l' : Array Bool} {a a' : Act} {w : World} (hi : os[i]? = some oi) (hz : zWaits md os.toArray z i = true)
    (hs : Region.noSelect os.toArray = true) (hf : Region.free md os.toArray l i = true) (hr : (Region.ready md os.toArray l).contains i = true)
    (hQ : ∀ c a w, Q (.panic c) (a.put oi.dst v) w → Q (.panic c) a w) (hw : Region.wanted oi (yielded os.toArray a.tmps) = true) (hS : S w) (hl : l.setIfInBounds i true = l') (ha : a.put oi.dst v = a')
    (hy : ∀ w, S w → (execOp a.eval oi).run P w = .ok (.value v) w) (h : anyBut P md os.toArray Q S z f l' a' w) : anyBut P md os.toArray Q S z (f + 1) l a w := by
  subst hl; subst ha
  exact but_take (by simpa using hi) hz hs hf hr hQ (Or.inl ⟨hw, hy⟩) hS h

theorem but_one' {os : List Oper} {i : Nat} {o : Oper} {f : Nat} {l l' : Array Bool} {a : Act} {w : World} (hi : os[i]? = some o) (hr : Region.ready md os.toArray l = [i]) (hw : Region.wanted o (yielded os.toArray a.tmps) = true) (hl : l.setIfInBounds i true = l')
    (h : ∀ K, (∀ a' w', (i ≠ z → S w') → anyBut P md os.toArray Q S z f l' a' w' → K a' w') → o.wp P a w K Q) :
    anyBut P md os.toArray Q S z (f + 1) l a w := by
  subst hl
  refine but_one (by simpa using hi) hr ?_
  rw [if_pos hw]
  exact h _ fun a' w' h1 h2 => ⟨h1, h2⟩

theorem but_done {l : Array Bool} {a : Act} {w : World} (hr : Region.ready md ops l = []) (h : Q .normal a w) : ∀ f, anyBut P md ops Q S z f l a w
  | 0 => ⟨hr, h⟩
  | _ + 1 => ⟨fun _ => h, by rw [hr]; simp⟩
end

end Go.Proofs.Ytidekbamlnpglaa

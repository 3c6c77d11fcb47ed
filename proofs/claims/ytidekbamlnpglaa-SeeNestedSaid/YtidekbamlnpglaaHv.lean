/-
  A region whose order is drawn, gone through one operation at a time: what only reads is taken first.
-/
import Derived.Test.YtidekbamlnpglaaHr
namespace Go.Proofs.Ytidekbamlnpglaa
open Go.RowKit Tc

section
variable {P : Program} {Q : Exit → Act → World → Prop} {md : Region.Mode} {S : World → Prop}
theorem region_held {ops : Array Oper} {id : Nat} {a : Act} {w : World} (hm : P.follows .mixedOrders = true) (n : Nat) (l : Array Bool) (hn : ops.size = n) (hl : Array.replicate n false = l)
    (h : wpAnyH P .any ops Q S n l a w.drew) : (Code.region id ops true).wp P Q a w := by
  subst hl; subst hn
  exact wp_region_held hm h
theorem held_take' {os : List Oper} {i : Nat} {oi : Oper} (v : Value) {f : Nat} {l l' : Array Bool} {a a' : Act} {w : World} (hi : os[i]? = some oi)
    (hs : Region.noSelect os.toArray = true) (hf : Region.free md os.toArray l i = true) (hr : (Region.ready md os.toArray l).contains i = true)
    (hQ : ∀ c a w, Q (.panic c) (a.put oi.dst v) w → Q (.panic c) a w) (hw : Region.wanted oi (yielded os.toArray a.tmps) = true) (hS : S w) (hl : l.setIfInBounds i true = l') (ha : a.put oi.dst v = a')
    (hy : ∀ w, S w → (execOp a.eval oi).run P w = .ok (.value v) w) (h : wpAnyH P md os.toArray Q S f l' a' w) : wpAnyH P md os.toArray Q S (f + 1) l a w := by
  subst hl; subst ha
  exact wpAnyH_take (by simpa using hi) hs hf hr hQ (Or.inl ⟨hw, hy⟩) hS h
theorem held_skip' {os : List Oper} {i : Nat} {oi : Oper} {f : Nat} {l l' : Array Bool} {a a' : Act} {w : World} (hi : os[i]? = some oi)
    (hs : Region.noSelect os.toArray = true) (hf : Region.free md os.toArray l i = true) (hr : (Region.ready md os.toArray l).contains i = true)
    (hQ : ∀ c a w, Q (.panic c) (a.put oi.dst undef) w → Q (.panic c) a w) (hw : Region.wanted oi (yielded os.toArray a.tmps) = false) (hS : S w) (hl : l.setIfInBounds i true = l') (ha : a.put oi.dst undef = a')
    (h : wpAnyH P md os.toArray Q S f l' a' w) : wpAnyH P md os.toArray Q S (f + 1) l a w := by
  subst hl; subst ha
  exact wpAnyH_take (by simpa using hi) hs hf hr hQ (Or.inr ⟨hw, rfl⟩) hS h
theorem held_one' {os : List Oper} {i : Nat} {o : Oper} {f : Nat} {l l' : Array Bool} {a : Act} {w : World} (hi : os[i]? = some o) (hr : Region.ready md os.toArray l = [i]) (hw : Region.wanted o (yielded os.toArray a.tmps) = true) (hl : l.setIfInBounds i true = l')
    (h : ∀ K, (∀ a' w', S w' → wpAnyH P md os.toArray Q S f l' a' w' → K a' w') → o.wp P a w K Q) :
    wpAnyH P md os.toArray Q S (f + 1) l a w := by
  subst hl
  refine wpAnyH_all hr (by simp) fun j hj => ?_
  obtain rfl : j = i := by simpa using hj
  unfold wpOp
  have hi' : os.toArray[j]? = some o := by simpa using hi
  simp only [hi', hw, if_true]
  exact Or.inl (h _ fun a' w' h1 h2 => ⟨h1, h2⟩)
end
end Go.Proofs.Ytidekbamlnpglaa

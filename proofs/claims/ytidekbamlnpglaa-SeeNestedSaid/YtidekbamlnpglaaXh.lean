/-
  slices.Clone and slices.Reverse of entries, slices.Reverse of numbers: the shelf's contracts in this proof's words.
-/
import Derived.Test.YtidekbamlnpglaaXg
import Derived.Shelf.SlicesQ.Reverse
import Derived.Shelf.SlicesE.Clone
import Derived.Shelf.Slices.Reverse
import Derived.Shelf.Lay
import Derived.Ground.NamesProg
import Derived.Ground.SlgnProg
import Derived.Lib.OwnBridge
namespace Go.Proofs
open Go.Shelf
shelf_lay_g SlLaysE0.n41 Slgn 41 at Try 119 as Try.layCloneSt
shelf_lay_g SlLaysE0.n35 Slgn 35 at Try 120 as Try.layRevSt
shelf_lay Lays.n112 Nm 112 at Try as Try.layRevI
end Go.Proofs

namespace Go.Proofs.Ytidekbamlnpglaa
open Go.RowKit Tc Go.Shelf Go.Sort

instance : Inhabited Sp := ⟨{}⟩

/-! ## Numbers -/
theorem reverseI_calls {w : World} {base : Nat} {v : Value} {l : List Int} (h : OwnI w base v l) (hl : l.length ≤ 1000000) :
    Calls Try.prog 124 #[v] w fun e w' => e = .returned (.tuple #[]) ∧ OwnI w' base v l.reverse ∧ Below base w w' := by
  by_cases hv : v = .slice none 0 0
  · subst hv
    have hl0 : l = [] := by
      rcases h.2 with ⟨_, e⟩ | ⟨g, cap, cur, e, _⟩
      · exact List.length_eq_zero_iff.1 e
      · cases e
    subst hl0
    refine (Any.slices_Reverse_int_empty Try.layRevI none 0 w).mono ?_
    rintro e w' ⟨rfl, rfl⟩
    exact ⟨rfl, World.ownsRow_nil _ _ _ _, Below.refl _ _⟩
  · obtain ⟨g, cap, rfl, hb, hg, _, _, _, hH⟩ := Lib.holds_of_ownsRow h hv
    refine (Any.slices_Reverse_int Try.layRevI g 0 cap l w hH (by omega)).mono ?_
    rintro e w' ⟨rfl, q, rfl⟩
    refine ⟨rfl, ?_, Lib.below_putRow (Below.refl _ _) hb⟩
    have hy : l.reverse.length = l.length := by simp
    have := Lib.ownsRow_putRow (q := q) (ys := l.reverse) h hy (Nat.le_refl _)
    rw [List.take_of_length_le (Nat.le_of_eq hy)] at this
    unfold OwnI
    rw [hy]
    exact this

/-! ## Entries -/
theorem psCells_flat (l : List Sp) (t : Nat) (h : t < l.length * 5) : (psCells l)[t]? = some (flatK spCells 5 l.toArray)[t]! := by
  rw [get_flatK _ _ _ t (by simpa using h)]
  have hq : t / 5 < l.length := by omega
  have hr : t % 5 < 5 := Nat.mod_lt _ (by omega)
  have e : t = t / 5 * 5 + t % 5 := by omega
  have h1 := psCells_get l (t / 5) (t % 5) hq hr
  rw [← e] at h1
  rw [h1]
  have hlen : (spCells l[t / 5]).length = 5 := rfl
  rw [List.getElem?_eq_getElem (by omega)]
  have e2 : l.toArray[t / 5]! = l[t / 5] := by simp [getElem!_pos, hq]
  rw [e2, getElem!_pos _ _ (by omega)]
theorem ownP_block {w : World} {base g n cap : Nat} {l : List Sp} (h : OwnP w base (.slice (some ⟨g, 0, none⟩) n cap) l) : ∃ cur, base ≤ g ∧ w.heap[g]? = some (.cells cur 70 (0, 0)) ∧ l.length = n ∧ n ≤ cap ∧ cap ≤ maxLen ∧ cur.size = cap * 5 ∧ cur.toList.take (n * 5) = psCells l := by
  rcases h.2 with ⟨e, _⟩ | ⟨g', cap', cur, e, hb, hg, hc, hm, hs, ht⟩
  · cases e
  · simp only [Value.slice.injEq, Option.some.injEq, Addr.mk.injEq, and_true] at e
    obtain ⟨rfl, rfl, rfl⟩ := e
    exact ⟨cur, hb, hg, rfl, hc, hm, hs, ht⟩
theorem ownP_holds {w : World} {base g n cap : Nat} {l : List Sp} (h : OwnP w base (.slice (some ⟨g, 0, none⟩) n cap) l) : HoldsK spCells 5 w g 0 l.toArray := by
  obtain ⟨cur, hb, hg, hn, hc, hm, hs, ht⟩ := ownP_block h
  intro j hj
  have hj' : j < l.length * 5 := by simpa using hj
  refine ⟨?_, by simp [World.frozen?, hg]⟩
  have e1 : (cur.toList.take (n * 5))[j]? = (psCells l)[j]? := by rw [ht]
  rw [List.getElem?_take, if_pos (by omega), Array.getElem?_toList, psCells_flat l j hj'] at e1
  simp only [World.cell?, hg, Nat.zero_add]
  simp only [Option.isSome_none, Bool.false_eq_true, if_false]
  rw [e1]
  rfl
theorem ownP_put {w : World} {base g cap q : Nat} {l m : List Sp} (h : OwnP w base (.slice (some ⟨g, 0, none⟩) l.length cap) l) (hm : m.length = l.length) :
    OwnP (putRowK spCells 5 (Sort.ahead w q) g 0 m.toArray) base (.slice (some ⟨g, 0, none⟩) l.length cap) m := by
  obtain ⟨cur, hb, hg, _, hc, hmx, hs, ht⟩ := ownP_block h
  refine ⟨by rw [psCells_length], .inr ⟨g, cap, putCells id 0 (flatK spCells 5 m.toArray) cur, by rw [hm], hb, ?_, by omega, hmx, by simpa [putCells] using hs, ?_⟩⟩
  · simp [putRowK, putRow, mapBlock, Sort.ahead, Array.getElem?_modify, hg, onCells]
  · apply List.ext_getElem?
    intro j
    rw [List.getElem?_take, Array.getElem?_toList]
    by_cases hj : j < m.length * 5
    · have hjc : j < cur.size := by omega
      rw [if_pos hj, psCells_flat m j hj]
      simp only [putCells, Array.getElem?_mapIdx, Array.getElem?_eq_getElem hjc, Option.map_some]
      rw [if_pos (by simp; omega)]
      simp
    · rw [if_neg hj, List.getElem?_eq_none (by rw [psCells_length]; omega)]
theorem reverseP_calls {w : World} {base g n cap : Nat} {l : List Sp} (h : OwnP w base (.slice (some ⟨g, 0, none⟩) n cap) l) (hl : l.length ≤ 1000000) :
    Calls Try.prog 120 #[.slice (some ⟨g, 0, none⟩) n cap] w fun e w' => e = .returned (.tuple #[]) ∧ OwnP w' base (.slice (some ⟨g, 0, none⟩) n cap) l.reverse ∧ Below base w w' := by
  obtain ⟨cur, hb, hg, hn, _⟩ := ownP_block h
  subst hn
  have := AnyQ.slices_Reverse Try.layRevSt 5 Try.isAgg70 Try.sizeOf70 spCells (fun _ => rfl) (fun x u hu => psCells_one [x] u (by simpa [psCells] using hu)) g 0 cap l.toArray w (ownP_holds h) (by simp; omega)
  rw [List.size_toArray] at this
  refine this.mono ?_
  rintro e w' ⟨rfl, q, rfl⟩
  rw [List.reverse_toArray]
  exact ⟨rfl, ownP_put (q := q) h (m := l.reverse) (by simp), Lib.below_putRow (Below.refl _ _) hb⟩
theorem cloneP_calls {w : World} {b off n c : Nat} {l : List Sp} (h : StepsAt w (.slice (some ⟨b, off, none⟩) n c) l) (hl : l.length ≤ 100000) :
    Calls Try.prog 119 #[.slice (some ⟨b, off, none⟩) n c] w fun e w' => ∃ g cap, e = .returned (.slice (some ⟨g, 0, none⟩) n cap) ∧ OwnP w' w.heap.size (.slice (some ⟨g, 0, none⟩) n cap) l ∧ Below w.heap.size w w' := by
  obtain ⟨i0, hi, hz0, hz1, hz2⟩ := info_parts infoStep
  obtain ⟨ao, cap, e, h1, h2, h3, h4, h5⟩ := h
  simp only [Value.slice.injEq] at e
  obtain ⟨rfl, rfl, rfl⟩ := e
  refine (AnyE.slices_Clone Try.layCloneSt i0 zeroStep 5 32 hi hz0 hz1 hz2 rfl (by omega) Try.sizeOf70 b off l.length c (psCells l) w (psCells_length l) (by unfold maxLen; omega) (by omega) ?_ (psCells_one l)).mono ?_
  · intro j u hu
    have hj : j < l.length * 5 := by
      have := (List.getElem?_eq_some_iff.1 hu).1
      rwa [psCells_length] at this
    have hq : j / 5 < l.length := by omega
    have hr : j % 5 < 5 := Nat.mod_lt _ (by omega)
    have e : j = j / 5 * 5 + j % 5 := by omega
    have := h5 b off rfl (j / 5) hq (j % 5) hr
    rw [show off + j / 5 * 5 + j % 5 = off + j by omega] at this
    rw [this, ← psCells_get l _ _ hq hr, ← e, hu]
  · rintro e w' ⟨v', rfl, hown, hne, hb⟩
    rcases hown.2 with ⟨e, _⟩ | ⟨g, cap, cur, rfl, _⟩
    · exact absurd e hne
    · exact ⟨g, cap, rfl, hown, hb⟩

/-! ## Parts of a path -/
theorem stepsAt_sub {w : World} {b off n c : Nat} {l : List Sp} (h : StepsAt w (.slice (some ⟨b, off, none⟩) n c) l) (i j c' : Nat) (hij : i ≤ j) (hj : j ≤ l.length) (hc : j - i ≤ c') (hc' : c' ≤ maxLen) : StepsAt w (.slice (some ⟨b, off + i * 5, none⟩) (j - i) c') ((l.take j).drop i) := by
  obtain ⟨ao, cap, e, h1, h2, h3, h4, h5⟩ := h
  simp only [Value.slice.injEq] at e
  obtain ⟨rfl, rfl, rfl⟩ := e
  have hlen : ((l.take j).drop i).length = j - i := by simp; omega
  refine ⟨some ⟨b, off + i * 5, none⟩, c', by rw [hlen], by omega, hc', (by intro h; cases h), (by intro a h _; cases h; rfl), ?_⟩
  intro b' off' hb k hk m hm
  simp only [Option.some.injEq, Addr.mk.injEq, and_true] at hb
  obtain ⟨rfl, rfl⟩ := hb
  have := h5 b off rfl (i + k) (by omega) m hm
  rw [show off + i * 5 + k * 5 + m = off + (i + k) * 5 + m by omega, this]
  congr 1
  simp
theorem placeR_lt {node : Int} : ∀ (l : List Sp) (lv : Int) {i : Nat} {v : Int}, placeR node l lv = some (i, v) → i < l.length ∧ lv - l.length ≤ v ∧ v ≤ lv + l.length
  | [], _, _, _, h => by simp [placeR] at h
  | s :: r, lv, i, v, h => by
    rw [placeR] at h
    have h1 : 0 ≤ b2 s.cr ∧ b2 s.cr ≤ 1 := by unfold b2; split <;> omega
    have h2 : 0 ≤ b2 s.cs ∧ b2 s.cs ≤ 1 := by unfold b2; split <;> omega
    simp only [List.length_cons]
    split at h
    · simp only [Option.some.injEq, Prod.mk.injEq] at h
      obtain ⟨rfl, rfl⟩ := h
      omega
    · have := placeR_lt r _ h
      omega
theorem placeL_lt {P : List Sp} {node : Int} {i : Nat} {v : Int} (h : placeL P node = some (i, v)) : i < P.length ∧ -(P.length : Int) ≤ v ∧ v ≤ P.length := by
  have := placeR_lt _ _ h
  simp only [List.length_reverse] at this
  omega
end Go.Proofs.Ytidekbamlnpglaa

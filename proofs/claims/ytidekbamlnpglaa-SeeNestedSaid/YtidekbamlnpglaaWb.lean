/-
  The walks of kin's Up, Root, Above, and slices.Index, Contains over []int.
-/
import Derived.Test.YtidekbamlnpglaaWa
namespace Go.Proofs.Ytidekbamlnpglaa
open Go.RowKit Tc

theorem ownI_below {w w' : World} {base : Nat} {v : Value} {l : List Int} (h : OwnI w base v l) (hb : Below w.heap.size w w') : OwnI w' base v l := ownsRow_below h hb

set_option maxRecDepth 100000 in
set_option maxHeartbeats 400000 in
theorem up_calls {w : World} {hb : Nat} {S : Nat → Prop} {L : Fo} (h : FoAt w hb S L) (hE : Tc.Ends L) (id : Int) :
    Calls Try.prog 88 #[.pointer (some ⟨hb, 0, none⟩), I id] w fun e w' => ∃ v, e = .returned v ∧ OwnI w' w.heap.size v (up L id) ∧ Below w.heap.size w w' := by
  have hlen := up_length hE id
  have hfew := h.few
  have H := Lib.hid h
  have HE := Lib.hid hE
  clear h hE
  go_enter Try.func88, Try.ntmps88
  go_wp2
  go_loopw [1, 5] (fun i v wr => ∃ cur acc, i = I cur ∧ OwnI wr w.heap.size v acc ∧ up L id = acc ++ up L cur ∧ Below w.heap.size w wr) (fun i _ _ => (up L (intOf i)).length)
  case atStart => exact ⟨id, [], rfl, World.ownsRow_nil _ _ _ _, rfl, Below.refl _ _⟩
  case round =>
    obtain ⟨cur, acc, rfl, hown, hup, hbel⟩ := hrel
    have HU := Lib.hid hup
    have HO := Lib.hid hown
    have HB := Lib.hid hbel
    have hacc : acc.length ≤ 128 := by have := congrArg List.length hup; simp at this; omega
    clear hup hown hbel
    by_cases ht : there L cur = true
    · have HT := Lib.hid ht
      clear ht
      go_wp2_with fail
      refine (node_in (H.out.below HB.out) cur HT.out).mono ?_
      rintro e w1 ⟨kv, rfl, hk, hb1⟩
      obtain ⟨ka, kc, rfl⟩ := hk.shape
      have HB1 := Lib.hid hb1
      clear hb1 hk
      go_wp2_with (at_builtin; go_must (refine appI rfl (.tmp 17) (.tmp 19) rfl w.heap.size _ acc rfl ((ownI_below (ownI_below HO.out HB1.out) (below1 _ _)).alloc _) _ [cur] rfl (IntsAt.one' (by simp)) (by simp; omega) (by simp; have := HB.out.size; have := HB1.out.size; omega) ?_); intro v' w' hown hg; have q := (app_cell HO.out hg w1.heap.size 1 HB1.out.size (by simp <;> omega)).trans (alloc2_cell ..); simp at q)
      have hb2 := grown_below ((Below.step (Below.step HB.out HB1.out) (below1 _ _)).alloc (by simp; have := HB.out.size; have := HB1.out.size; omega) _) ((ownI_below (ownI_below HO.out HB1.out) (below1 _ _)).alloc _) hg (by simp; have := HB.out.size; have := HB1.out.size; omega) (Nat.le_refl _)
      go_wp2
      refine ⟨⟨par L cur, acc ++ [cur], rfl, hown, ?_, hb2⟩, ?_⟩
      · rw [HU.out, up_cons HE.out HT.out]; simp
      · show (up L (par L cur)).length < (up L cur).length
        rw [up_cons HE.out HT.out]; simp
    · have HT := Lib.hid ht
      clear ht
      go_wp2_with (go_at_call 22; refine (node_out (H.out.below HB.out) cur (by simpa using HT.out)).mono ?_; rintro e w1 ⟨rfl, hb1⟩)
      go_ret
      refine ⟨u5, rfl, ?_, ?_⟩
      · rw [HU.out, up_not (by simpa using HT.out), List.append_nil]
        exact (ownI_below HO.out hb1).alloc _
      · exact Below.step (Below.step HB.out hb1) (below1 _ _)

theorem IntsAt.cellAt {w : World} {b off cap : Nat} {l : List Int} {n : Nat} (h : IntsAt w (.slice (some ⟨b, off, none⟩) n cap) l) (j : Nat) (hj : j < l.length) : w.cell? ⟨b, off + j, none⟩ = some (I (l.getD j 0)) := by
  obtain ⟨ao, cap', e, _, _, _, _, h5⟩ := h
  simp only [Value.slice.injEq] at e
  exact h5 b off e.1.symm j hj
/-- A slice of numbers, taken apart: its shape, and where its cells lie. -/
theorem IntsAt.open {w : World} {v : Value} {l : List Int} (h : IntsAt w v l) : ∃ ao cap, v = .slice ao l.length cap ∧ l.length ≤ cap ∧ cap ≤ maxLen ∧ (0 < l.length → ∃ b off, ao = some ⟨b, off, none⟩) := by
  obtain ⟨ao, cap, e, h1, h2, h3, h4, _⟩ := h
  refine ⟨ao, cap, e, h1, h2, fun hp => ?_⟩
  cases ao with
  | none => rw [(h3 rfl).1] at hp; simp at hp
  | some a =>
    obtain ⟨b, off, sp⟩ := a
    have := h4 _ rfl (fun e => by rw [e] at hp; simp at hp)
    simp only at this
    subst this
    exact ⟨b, off, rfl⟩

set_option maxHeartbeats 400000 in
theorem root_calls {w : World} {hb : Nat} {S : Nat → Prop} {L : Fo} (h : FoAt w hb S L) (hE : Tc.Ends L) (id : Int) :
    Calls Try.prog 27 #[.pointer (some ⟨hb, 0, none⟩), I id] w fun e w' => e = .returned (I (root L id)) ∧ Below w.heap.size w w' := by
  have hlen := up_length hE id
  have hfew := h.few
  obtain ⟨l, hl⟩ : ∃ l, up L id = l := ⟨_, rfl⟩
  have HL := Lib.hid hl
  have H := Lib.hid h
  have HE := Lib.hid hE
  rw [hl] at hlen
  clear h hE hl
  go_enter Try.func27, Try.ntmps27
  go_wp2_with fail
  refine (up_calls H.out HE.out id).mono ?_
  rintro e w1 ⟨v, rfl, hown, hb1⟩
  rw [HL.out] at hown
  obtain ⟨ao, cap, rfl, hc1, hc2, hp⟩ := hown.ints.open
  by_cases hz : l.length = 0
  · have hz' : l = [] := List.length_eq_zero_iff.1 hz
    subst hz'
    clear hown hp hc1 hc2 hz
    go_wp2
    go_ret
    exact ⟨by rw [root, HL.out]; rfl, hb1⟩
  · obtain ⟨b, off, rfl⟩ := hp (by omega)
    have hcell := hown.ints.cellAt (l.length - 1) (by omega)
    obtain ⟨n, hn⟩ : ∃ n, l.length = n + 1 := ⟨l.length - 1, by omega⟩
    rw [hn] at hcell hc1 hlen ⊢
    have hlast : root L id = l.getD n 0 := by
      rw [root, HL.out, List.getLastD_eq_getLast?, List.getLast?_eq_getElem?, hn]; rfl
    have HH := Lib.hid hlast
    have HN := Lib.hid hn
    rw [show n + 1 - 1 = n from rfl] at hcell
    unfold maxLen at hc2
    clear hown hp hz hn hlast
    go_wp2
    go_ret
    exact ⟨by rw [HH.out, List.getD_eq_getElem?_getD]; rfl, hb1⟩

/-- The first place of a number. -/
def indexI (l : List Int) (x : Int) : Int := if x ∈ l then (l.idxOf x : Int) else -1
theorem idxOf_at : ∀ {l : List Int} {x : Int} {k : Nat}, k < l.length → l.getD k 0 = x → (∀ j, j < k → l.getD j 0 ≠ x) → l.idxOf x = k
  | [], _, _, h, _, _ => by simp at h
  | y :: l, x, 0, _, h, _ => by
    have h : y = x := h
    rw [h, List.idxOf_cons_self]
  | y :: l, x, k + 1, h, h1, h2 => by
    have hne : y ≠ x := h2 0 (by omega)
    have := idxOf_at (l := l) (x := x) (k := k) (by simpa using h) (by simpa using h1) (fun j hj => by have := h2 (j + 1) (by omega); simpa using this)
    rw [List.idxOf_cons, this]
    have : (y == x) = false := by simpa using hne
    rw [this]; rfl
theorem indexI_at {l : List Int} {x : Int} {k : Nat} (hk : k < l.length) (h : l.getD k 0 = x) (h2 : ∀ j, j < k → l.getD j 0 ≠ x) : indexI l x = k := by
  unfold indexI
  rw [if_pos, idxOf_at hk h h2]
  rw [← h, List.getD_eq_getElem?_getD, List.getElem?_eq_getElem hk]
  exact List.getElem_mem hk
theorem indexI_none {l : List Int} {x : Int} (h : ∀ j, j < l.length → l.getD j 0 ≠ x) : indexI l x = -1 := by
  unfold indexI
  rw [if_neg]
  intro hm
  obtain ⟨j, hj, e⟩ := List.getElem_of_mem hm
  have := h j hj
  rw [List.getD_eq_getElem?_getD, List.getElem?_eq_getElem hj] at this
  exact this e

set_option maxHeartbeats 400000 in
theorem index_calls {w : World} {v : Value} {l : List Int} (h : IntsAt w v l) (hl : l.length ≤ 1000000) (x : Int) :
    Calls Try.prog 104 #[v, I x] w fun e w' => e = .returned (I (indexI l x)) ∧ w = w' := by
  obtain ⟨ao, cap, rfl, hc1, hc2, hp⟩ := h.open
  have H := Lib.hid h
  have HP := Lib.hid hp
  obtain ⟨n, hn⟩ : ∃ n, l.length = n := ⟨_, rfl⟩
  have HN := Lib.hid hn
  rw [hn] at hl hc1 H ⊢
  unfold maxLen at hc2
  clear h hp hn
  go_enter Try.func104, Try.ntmps104
  go_wp2
  go_loop [8] (fun i => ∃ k : Nat, i = I k ∧ k ≤ n ∧ ∀ j, j < k → l.getD j 0 ≠ x) (fun i => n - (intOf i).toNat)
  case atStart => exact ⟨0, rfl, by omega, fun j hj => by omega⟩
  case round =>
    obtain ⟨k, rfl, hk, hno⟩ := hrel
    have HNO := Lib.hid hno
    clear hno
    by_cases hlt : k < n
    · obtain ⟨b, off, e⟩ := HP.out (by rw [HN.out]; omega)
      subst e
      have hcell := H.out.cellAt k (by rw [HN.out]; omega)
      obtain ⟨y, hy⟩ : ∃ y, l.getD k 0 = y := ⟨_, rfl⟩
      rw [hy] at hcell
      have HY := Lib.hid hy
      clear hy
      by_cases hxy : x = y
      · subst hxy
        go_wp2
        go_ret
        exact ⟨by rw [indexI_at (by rw [HN.out]; exact hlt) HY.out HNO.out]; rfl, rfl⟩
      · have hne : (x == y) = false := by simpa using hxy
        have HXY := Lib.hid hxy
        clear hxy
        go_wp2
        go_round
        case rel =>
          refine ⟨k + 1, by go_num, by omega, fun j hj => ?_⟩
          by_cases e : j = k
          · subst e; rw [HY.out]; exact fun e => HXY.out e.symm
          · exact HNO.out j (by omega)
        case measure => simp [intOf]; omega
    · go_wp2
      go_ret
      refine ⟨?_, rfl⟩
      rw [indexI_none fun j hj => HNO.out j (by rw [HN.out] at hj; omega)]
      rfl

theorem indexI_nonneg (l : List Int) (x : Int) : decide (0 ≤ indexI l x) = decide (x ∈ l) := by
  unfold indexI
  by_cases h : x ∈ l
  · rw [if_pos h]; simp [h]
  · rw [if_neg h]; simp [h]

set_option maxHeartbeats 400000 in
theorem contains_calls {w : World} {v : Value} {l : List Int} (h : IntsAt w v l) (hl : l.length ≤ 1000000) (x : Int) :
    Calls Try.prog 125 #[v, I x] w fun e w' => e = .returned (.bool (decide (x ∈ l))) ∧ w = w' := by
  have H := Lib.hid h
  clear h
  go_enter Try.func125, Try.ntmps125
  go_wp2_with (go_at_call 104; refine (index_calls H.out hl x).mono ?_; rintro e w1 ⟨rfl, rfl⟩)
  go_ret
  exact ⟨by rw [← indexI_nonneg]; rfl, rfl⟩

set_option maxHeartbeats 400000 in
theorem above_calls {w : World} {hb : Nat} {S : Nat → Prop} {L : Fo} (h : FoAt w hb S L) (hE : Tc.Ends L) (a b : Int) :
    Calls Try.prog 86 #[.pointer (some ⟨hb, 0, none⟩), I a, I b] w fun e w' => e = .returned (.bool (decide (a ∈ up L b))) ∧ Below w.heap.size w w' := by
  have hlen := up_length hE b
  have hfew := h.few
  have H := Lib.hid h
  have HE := Lib.hid hE
  clear h hE
  go_enter Try.func86, Try.ntmps86
  go_wp2_with fail
  refine (up_calls H.out HE.out b).mono ?_
  rintro e w1 ⟨v, rfl, hown, hb1⟩
  have HO := Lib.hid hown
  have HB := Lib.hid hb1
  clear hown hb1
  go_wp2_with (go_at_call 125; refine (contains_calls HO.out.ints (by omega) a).mono ?_; rintro e w1 ⟨rfl, rfl⟩)
  go_ret
  exact ⟨rfl, HB.out⟩

end Go.Proofs.Ytidekbamlnpglaa

/-
  The walks of arena.New and shade.Attach.
-/
import Derived.Test.YtidekbamlnpglaaWi
import Derived.Test.YtidekbamlnpglaaPe
namespace Go.Proofs.Ytidekbamlnpglaa
open Go.RowKit Tc

theorem Turned.to {w w' : World} {hb B : Nat} {L : Fo} (h : Turned w w' hb (fun k => B ≤ k) L) (hB : B ≤ w.heap.size) : FoAt w' hb (fun k => B ≤ k) L ∧ Below B w w' :=
  ⟨h.fo.mono fun _ _ hk => hk.elim id (fun h2 => Nat.le_trans hB h2), h.keeps.below hB fun _ h => h⟩
theorem FoAt.size {w : World} {hb B : Nat} {L : Fo} (h : FoAt w hb (fun k => B ≤ k) L) : B ≤ w.heap.size := by
  obtain ⟨v, kvs, h⟩ := h
  have h1 := lt_of_block h.head
  have h2 := h.headS
  omega

set_option maxRecDepth 100000 in
theorem new_calls (w : World) :
    Calls Try.prog 78 #[] w fun e w' => e = .returned (.pointer (some ⟨w.heap.size, 0, none⟩)) ∧ FoAt w' w.heap.size (fun k => w.heap.size ≤ k) [] ∧ Below w.heap.size w w' := by
  go_enter Try.func78, Try.ntmps78
  go_wp2
  go_ret
  refine ⟨rfl, ⟨.slice none 0 0, [], ?_⟩, below1 _ _⟩
  exact {
    head := by unfold World.alloc; exact Array.getElem?_push_size
    headS := Nat.le_refl _
    row := World.ownsRow_nil _ _ _ _
    rowS := by intro k h; cases h
    klen := rfl
    kids := by intro i hi; simp at hi
    kidsS := by intro i hi; simp at hi
    few := by simp
    kfew := by intro i hi; simp at hi }


set_option maxRecDepth 100000 in
set_option maxHeartbeats 1600000 in
theorem attach_calls {w : World} {hb B : Nat} {L : Fo} (h : FoAt w hb (fun k => B ≤ k) L) (hW : WF L) (a m : Int) :
    Calls Try.prog 76 #[.pointer (some ⟨hb, 0, none⟩), I a, I m] w fun e w' => e = .returned (.tuple #[I (attach L a m).2.1, I (attach L a m).2.2]) ∧ FoAt w' hb (fun k => B ≤ k) (attach L a m).1 ∧ Below B w w' := by
  have hB := h.size
  have H := Lib.hid h
  have HW := Lib.hid hW
  by_cases h1 : there L a = false ∨ (m ≠ 1 ∧ m ≠ 2)
  · have e : attach L a m = (L, 0, 1) := by unfold attach; rw [if_pos h1]
    rw [e]
    clear e h hW
    by_cases ha : there L a = false
    · have HA := Lib.hid ha
      clear h1 ha
      go_enter Try.func76, Try.ntmps76
      go_wp2_with fail
      refine (node_calls H.out a).mono ?_
      rw [HA.out]
      rintro e w2 ⟨ka, kc, rfl, hk2, hb2⟩
      go_wp2
      go_ret2
      exact ⟨rfl, (H.out.below hb2).below (below1 _ _), (Below.step hb2 (below1 _ _)).mono hB⟩
    · have ha : there L a = true := by simpa using ha
      have hm : m ≠ 1 ∧ m ≠ 2 := h1.resolve_left (by rw [ha]; simp)
      have m1 : (m != 1) = true := by simpa using hm.1
      have m2 : (m != 2) = true := by simpa using hm.2
      have HA := Lib.hid ha
      clear h1 ha hm
      go_enter Try.func76, Try.ntmps76
      go_wp2_with fail
      refine (node_calls H.out a).mono ?_
      rw [HA.out]
      rintro e w2 ⟨ka, kc, rfl, hk2, hb2⟩
      go_wp2
      go_ret2
      exact ⟨rfl, (H.out.below hb2).below (below1 _ _), (Below.step hb2 (below1 _ _)).mono hB⟩
  · have e1 : attach L a m = if (nd L a).kind ≠ 2 ∨ (nd L a).shadow ≠ 0 then (L, 0, 5)
      else if (mk L (shadowN m)).2.2 ≠ 0 then (L, 0, (mk L (shadowN m)).2.2)
      else ((tie (mk L (shadowN m)).1 a (mk L (shadowN m)).2.1).1, (mk L (shadowN m)).2.1, (tie (mk L (shadowN m)).1 a (mk L (shadowN m)).2.1).2) := by unfold attach; rw [if_neg h1]
    rw [e1]
    have ha : there L a = true := by
      cases hx : there L a with
      | true => rfl
      | false => exact absurd (Or.inl hx) h1
    have hm : (m != 1) = false ∨ (m != 1) = true ∧ (m != 2) = false := by
      by_cases q : m = 1
      · left; simp [q]
      · right
        refine ⟨by simpa using q, ?_⟩
        by_cases q2 : m = 2
        · simp [q2]
        · exact absurd (Or.inr ⟨q, q2⟩) h1
    have HA := Lib.hid ha
    have HM := Lib.hid hm
    clear e1 h1 ha h hW hm
    by_cases h2 : (nd L a).kind ≠ 2 ∨ (nd L a).shadow ≠ 0
    · rw [if_pos h2]
      have hk : ((nd L a).kind != 2) = true ∨ ((nd L a).kind != 2) = false ∧ ((nd L a).shadow != 0) = true := by
        by_cases q : (nd L a).kind = 2
        · right; exact ⟨by simp [q], by simpa using h2.resolve_left (by simpa using q)⟩
        · left; simpa using q
      clear h2
      obtain ⟨x, hx⟩ : ∃ x, nd L a = x := ⟨_, rfl⟩
      rw [hx] at hk
      have HX := Lib.hid hx
      clear hx
      rcases HM.out with m1 | ⟨m1, m2⟩ <;> rcases hk with k1 | ⟨k1, k2⟩
      all_goals
        go_enter Try.func76, Try.ntmps76
        go_wp2_with fail
        refine (node_calls H.out a).mono ?_
        rw [HA.out, HX.out]
        rintro e w2 ⟨ka, kc, rfl, hk2, hb2⟩
        go_wp2
        go_ret2
        exact ⟨rfl, (H.out.below hb2).below (below1 _ _), (Below.step hb2 (below1 _ _)).mono hB⟩
    · rw [if_neg h2]
      have k1 : ((nd L a).kind != 2) = false := by
        cases q : ((nd L a).kind != 2) with
        | false => rfl
        | true => exact absurd (Or.inl (by simpa using q)) h2
      have k2 : ((nd L a).shadow != 0) = false := by
        cases q : ((nd L a).shadow != 0) with
        | false => rfl
        | true => exact absurd (Or.inr (by simpa using q)) h2
      clear h2
      obtain ⟨x, hx⟩ : ∃ x, nd L a = x := ⟨_, rfl⟩
      rw [hx] at k1 k2
      have HX := Lib.hid hx
      clear hx
      by_cases h3 : (mk L (shadowN m)).2.2 ≠ 0
      · rw [if_pos h3]
        have hf := mk_err h3
        obtain ⟨er, he⟩ : ∃ er, (mk L (shadowN m)).2.2 = er := ⟨_, rfl⟩
        rw [he] at h3 hf ⊢
        have er0 : (er != 0) = true := by simpa using h3
        have HF := Lib.hid hf
        clear he h3 hf
        rcases HM.out with m1 | ⟨m1, m2⟩
        all_goals
          go_enter Try.func76, Try.ntmps76
          go_wp2_with fail
          refine (node_calls H.out a).mono ?_
          rw [HA.out, HX.out]
          rintro e w2 ⟨ka, kc, rfl, hk2, hb2⟩
          have HB2 := Lib.hid hb2
          clear hb2
          go_wp2_with fail
          refine (make_calls ((H.out.below HB2.out).below (below1 _ _)) (shadowN m) none 0 0).mono ?_
          rw [HF.out]
          rintro e w3 ⟨rfl, ht⟩
          have HT := Lib.hid ht
          clear ht
          go_wp2
          go_ret2
          have q := HT.out.to (((H.out.below HB2.out).below (below1 _ _)).size)
          exact ⟨rfl, q.1, ((Below.step HB2.out (below1 _ _)).mono hB).trans q.2⟩
      · rw [if_neg h3]
        have hw := HW.out.make (shadowN m)
        obtain ⟨⟨L1, id, er⟩, he⟩ : ∃ r, mk L (shadowN m) = r := ⟨_, rfl⟩
        rw [he] at h3 hw ⊢
        have h3 : er = 0 := by simpa using h3
        subst h3
        have HE := Lib.hid he
        have HW1 := Lib.hid hw
        clear he hw
        simp only
        rcases HM.out with m1 | ⟨m1, m2⟩
        all_goals
          go_enter Try.func76, Try.ntmps76
          go_wp2_with fail
          refine (node_calls H.out a).mono ?_
          rw [HA.out, HX.out]
          rintro e w2 ⟨ka, kc, rfl, hk2, hb2⟩
          have HB2 := Lib.hid hb2
          clear hb2
          go_wp2_with fail
          refine (make_calls ((H.out.below HB2.out).below (below1 _ _)) (shadowN m) none 0 0).mono ?_
          rw [HE.out]
          rintro e w3 ⟨rfl, ht⟩
          have q := ht.to (((H.out.below HB2.out).below (below1 _ _)).size)
          have HT := Lib.hid q
          clear ht q
          go_wp2_with fail
          refine (tie_calls HT.out.1 HW1.out a id).mono ?_
          rintro e w4 ⟨rfl, ht⟩
          have q := ht.to HT.out.1.size
          have HT2 := Lib.hid q
          clear ht q
          go_wp2
          go_ret2
          exact ⟨rfl, HT2.out.1, (((Below.step HB2.out (below1 _ _)).mono hB).trans HT.out.2).trans HT2.out.2⟩

end Go.Proofs.Ytidekbamlnpglaa

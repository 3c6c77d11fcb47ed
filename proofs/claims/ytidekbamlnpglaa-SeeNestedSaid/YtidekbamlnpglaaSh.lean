/-
  The walks of towncrierref01's Has and Ints, and of kin's kids, Index, Next.
-/
import Derived.Test.YtidekbamlnpglaaSe
import Derived.Test.YtidekbamlnpglaaPu
namespace Go.Proofs.Ytidekbamlnpglaa
open Go.RowKit Tc

set_option maxHeartbeats 400000 in
theorem has_calls {w : World} {v : Value} {l : List Int} (h : IntsAt w v l) (x : Int) :
    Calls Try.prog 40 #[v, I x] w fun e w' => e = .returned (.bool (decide (x ∈ l))) ∧ w = w' := by
  obtain ⟨ao, cap, rfl, hc1, hc2, hp⟩ := h.open
  have H := Lib.hid h
  have HP := Lib.hid hp
  obtain ⟨n, hn⟩ : ∃ n, l.length = n := ⟨_, rfl⟩
  have HN := Lib.hid hn
  rw [hn] at hc1 H ⊢
  unfold maxLen at hc2
  clear h hp hn
  go_enter Try.func40, Try.ntmps40
  go_wp2
  go_loop [5] (fun i => ∃ k : Nat, i = I k ∧ k ≤ n ∧ ∀ j, j < k → l.getD j 0 ≠ x) (fun i => n - (intOf i).toNat)
  case atStart => exact ⟨0, rfl, by omega, fun j hj => by omega⟩
  case round =>
    obtain ⟨k, rfl, hk, hno⟩ := hrel
    have HNO := Lib.hid hno
    clear hno
    by_cases hlt : k < n
    · obtain ⟨b, off, e⟩ := HP.out (by rw [HN.out]; omega)
      subst e
      have hcell := H.out.cellAt k (by rw [HN.out]; omega)
      obtain ⟨y, hy⟩ : ∃ y, l.getD k 0 = y := ⟨_, rfl⟩
      rw [hy] at hcell
      have HY := Lib.hid hy
      clear hy
      by_cases hxy : y = x
      · subst hxy
        go_wp2
        go_ret
        refine ⟨?_, rfl⟩
        rw [decide_eq_true (by rw [← HY.out]; exact getD_mem (by rw [HN.out]; exact hlt))]
        rfl
      · have hne : (y == x) = false := by simpa using hxy
        have HXY := Lib.hid hxy
        clear hxy
        go_wp2
        go_round
        case rel =>
          refine ⟨k + 1, by go_num, by omega, fun j hj => ?_⟩
          by_cases e : j = k
          · subst e; rw [HY.out]; exact HXY.out
          · exact HNO.out j (by omega)
        case measure => simp [intOf]; omega
    · go_wp2
      go_ret
      refine ⟨?_, rfl⟩
      have : x ∉ l := fun hm => by
        obtain ⟨j, hj, e⟩ := List.getElem_of_mem hm
        have := HNO.out j (by rw [HN.out] at hj; omega)
        rw [List.getD_eq_getElem?_getD, List.getElem?_eq_getElem hj] at this
        exact this e
      rw [decide_eq_false this]
      rfl

theorem getD_ext {l m : List Int} (hl : l.length = m.length) (h : ∀ j, j < l.length → l.getD j 0 = m.getD j 0) : l = m := by
  refine List.ext_getElem hl fun j h1 h2 => ?_
  have := h j h1
  simpa [List.getD, List.getElem?_eq_getElem h1, List.getElem?_eq_getElem h2] using this

set_option maxHeartbeats 800000 in
theorem rints_calls {w : World} {v u : Value} {l m : List Int} (h : IntsAt w v l) (g : IntsAt w u m) :
    Calls Try.prog 32 #[v, u] w fun e w' => e = .returned (.bool (decide (l = m))) ∧ Below w.heap.size w w' := by
  obtain ⟨ao, cap, rfl, hc1, hc2, hp⟩ := h.open
  obtain ⟨ao2, cap2, rfl, hd1, hd2, gp⟩ := g.open
  have H := Lib.hid h
  have HP := Lib.hid hp
  have G := Lib.hid g
  have GP := Lib.hid gp
  obtain ⟨n, hn⟩ : ∃ n, l.length = n := ⟨_, rfl⟩
  have HN := Lib.hid hn
  obtain ⟨n2, hn2⟩ : ∃ n, m.length = n := ⟨_, rfl⟩
  have HN2 := Lib.hid hn2
  rw [hn] at hc1 H ⊢
  rw [hn2] at hd1 G ⊢
  unfold maxLen at hc2 hd2
  clear h hp hn g gp hn2
  by_cases hnn : n = n2
  · subst hnn
    go_enter Try.func32, Try.ntmps32
    go_wp2
    go_loopw [5] (fun i wr => ∃ k : Nat, i = I k ∧ k ≤ n ∧ (∀ j, j < k → l.getD j 0 = m.getD j 0) ∧ Below w.heap.size w wr) (fun i _ => n - (intOf i).toNat)
    case atStart => exact ⟨0, rfl, by omega, fun j hj => by omega, Below.refl _ _⟩
    case round =>
      obtain ⟨k, rfl, hk, hno, hbel⟩ := hrel
      have HNO := Lib.hid hno
      have HB := Lib.hid hbel
      clear hno hbel
      by_cases hlt : k < n
      · obtain ⟨b, off, e⟩ := HP.out (by rw [HN.out]; omega)
        obtain ⟨b2, off2, e2⟩ := GP.out (by rw [HN2.out]; omega)
        subst e e2
        have hcell := (H.out.below HB.out).cellAt k (by rw [HN.out]; omega)
        have gcell := (G.out.below HB.out).cellAt k (by rw [HN2.out]; omega)
        obtain ⟨y, hy⟩ : ∃ y, l.getD k 0 = y := ⟨_, rfl⟩
        obtain ⟨z, hz⟩ : ∃ z, m.getD k 0 = z := ⟨_, rfl⟩
        rw [hy] at hcell
        rw [hz] at gcell
        have HY := Lib.hid hy
        have HZ := Lib.hid hz
        clear hy hz
        by_cases hxy : y = z
        · have hne : (y != z) = false := by simpa using hxy
          have HXY := Lib.hid hxy
          clear hxy
          go_wp2
          go_quiet (fail)
          go_wp2
          go_roundw
          case rel =>
            refine ⟨k + 1, by go_num, by omega, fun j hj => ?_, below_drewN HB.out _⟩
            by_cases e : j = k
            · subst e; rw [HY.out, HZ.out]; exact HXY.out
            · exact HNO.out j (by omega)
          case measure => simp [intOf]; omega
        · have hne : (y != z) = true := by simpa using hxy
          have HXY := Lib.hid hxy
          clear hxy
          go_wp2
          go_quiet (fail)
          go_wp2
          go_ret
          refine ⟨?_, below_drewN HB.out _⟩
          rw [decide_eq_false (fun e => HXY.out (by rw [← HY.out, ← HZ.out, e]))]
          rfl
      · go_wp2
        go_ret
        refine ⟨?_, HB.out⟩
        have : l = m := getD_ext (by rw [HN.out, HN2.out]) (fun j hj => HNO.out j (by rw [HN.out] at hj; omega))
        rw [decide_eq_true this]
        rfl
  · have hne : ((n : Int) != n2) = true := by simp; omega
    go_enter Try.func32, Try.ntmps32
    go_wp2
    go_ret
    refine ⟨?_, Below.refl _ _⟩
    rw [decide_eq_false (fun e => hnn (by rw [← HN.out, ← HN2.out, e]))]
    rfl

set_option maxRecDepth 100000 in
set_option maxHeartbeats 1600000 in
theorem kids_calls {w : World} {hb : Nat} {S : Nat → Prop} {L : Fo} (h : FoAt w hb S L) (hW : WF L) (id : Int) :
    Calls Try.prog 94 #[ptr hb, I id] w fun e w' => ∃ ka kc, e = .returned (.tuple #[.slice ka (sibL L id).length kc, I (idxL L id)]) ∧ OwnI w' w.heap.size (.slice ka (sibL L id).length kc) (sibL L id) ∧ Below w.heap.size w w' := by
  have H := Lib.hid h
  have HW := Lib.hid hW
  clear h hW
  obtain ⟨x, hx⟩ : ∃ x, nd L id = x := ⟨_, rfl⟩
  have hp : par L id = x.parent := by rw [← hx]
  have HX := Lib.hid hx
  cases ht : there L id
  · have e1 : sibL L id = [] := by unfold sibL; rw [if_pos (Or.inl ht)]
    have e2 : idxL L id = -1 := by unfold idxL; rw [if_pos (Or.inl ht)]
    rw [e1, e2]
    have HT := Lib.hid ht
    clear e1 e2 ht hx hp
    go_enter Try.func94, Try.ntmps94
    go_wp2_with fail
    refine (node_calls H.out id).mono ?_
    rw [HX.out, HT.out]
    rintro e w1 ⟨ka, kc, rfl, _, hb1⟩
    have HB1 := Lib.hid hb1
    clear hb1
    go_wp2
    go_ret2
    exact ⟨none, 0, rfl, World.ownsRow_nil _ _ _ _, Below.step HB1.out (below1 _ _)⟩
  · by_cases h0 : x.parent = 0
    · have e1 : sibL L id = [] := by unfold sibL; rw [if_pos (Or.inr (by rw [hp, h0]))]
      have e2 : idxL L id = -1 := by unfold idxL; rw [if_pos (Or.inr (by rw [hp, h0]))]
      rw [e1, e2]
      have HT := Lib.hid ht
      have h0' : (x.parent == 0) = true := by simpa using h0
      clear e1 e2 ht hx hp h0
      go_enter Try.func94, Try.ntmps94
      go_wp2_with fail
      refine (node_calls H.out id).mono ?_
      rw [HX.out, HT.out]
      rintro e w1 ⟨ka, kc, rfl, _, hb1⟩
      have HB1 := Lib.hid hb1
      clear hb1
      go_wp2
      go_ret2
      exact ⟨none, 0, rfl, World.ownsRow_nil _ _ _ _, Below.step HB1.out (below1 _ _)⟩
    · obtain ⟨y, hy⟩ : ∃ y, nd L x.parent = y := ⟨_, rfl⟩
      have e1 : sibL L id = y.kids := by unfold sibL; rw [if_neg (by rw [ht, hp]; simpa using h0), hp, hy]
      have e2 : idxL L id = indexI y.kids id := by
        unfold idxL indexI
        have hm := mem_sib HW.out ht (by rw [hp]; exact h0)
        rw [hp, hy] at hm
        rw [if_neg (by rw [ht, hp]; simpa using h0), hp, hy, if_pos hm]
      have hl : y.kids.length ≤ 128 := by rw [← hy]; exact Nat.le_trans (HW.out.kids_len _) HW.out.len
      rw [e1, e2]
      obtain ⟨ix, hix⟩ : ∃ ix, indexI y.kids id = ix := ⟨_, rfl⟩
      rw [hix]
      have HIX := Lib.hid hix
      have HT := Lib.hid ht
      have h0' : (x.parent == 0) = false := by simpa using h0
      have HY := Lib.hid hy
      have HL := Lib.hid hl
      clear e1 e2 ht hx hp h0 hy hl hix
      go_enter Try.func94, Try.ntmps94
      go_wp2_with fail
      refine (node_calls H.out id).mono ?_
      rw [HX.out, HT.out]
      rintro e w1 ⟨ka, kc, rfl, _, hb1⟩
      have HB1 := Lib.hid hb1
      clear hb1
      go_wp2_with fail
      refine (node_calls (H.out.below (Below.step HB1.out (below1 _ _))) x.parent).mono ?_
      rw [HY.out]
      rintro e w2 ⟨ka2, kc2, rfl, ho2, hb2⟩
      have HO2 := Lib.hid ho2
      have HB2 := Lib.hid hb2
      clear ho2 hb2
      go_wp2_with fail
      go_region_held3 (fun w3 => w3.cell? ⟨w2.heap.size, 8, none⟩ = some (.slice ka2 y.kids.length kc2) ∧ IntsAt w3 (.slice ka2 y.kids.length kc2) y.kids ∧ Below w2.heap.size w2 w3) (((try dsimp only); (repeat' apply And.intro) <;> (first | (with_reducible assumption) | (with_reducible refine cell_drew ?_; with_reducible exact cell_new rfl rfl) | (with_reducible exact HO2.out.ints.below (below_da _ _)) | (with_reducible exact below_da _ _) | fail)))
        ((go_at_call 104; refine (index_calls (‹_ ∧ IntsAt _ _ _ ∧ _›).2.1 (by have := HL.out; omega) id).mono ?_; rw [HIX.out]; rintro e w3 ⟨rfl, rfl⟩))
      go_wp2
      go_ret2
      exact ⟨ka2, kc2, rfl, ownsRow_base (ownsRow_below HO2.out (below_da _ _)) (by have := HB1.out.size; simp; omega), Below.step (Below.step (Below.step HB1.out (below1 _ _)) HB2.out) (below_da _ _)⟩

set_option maxHeartbeats 800000 in
theorem kindex_calls {w : World} {hb : Nat} {S : Nat → Prop} {L : Fo} (h : FoAt w hb S L) (hW : WF L) (id : Int) :
    Calls Try.prog 41 #[ptr hb, I id] w fun e w' => e = .returned (I (idxL L id)) ∧ Below w.heap.size w w' := by
  have H := Lib.hid h
  have HW := Lib.hid hW
  clear h hW
  go_enter Try.func41, Try.ntmps41
  go_wp2_with fail
  refine (kids_calls H.out HW.out id).mono ?_
  rintro e w1 ⟨ka, kc, rfl, _, hb1⟩
  have HB1 := Lib.hid hb1
  clear hb1
  go_wp2
  go_ret
  exact ⟨rfl, HB1.out⟩

set_option maxHeartbeats 1600000 in
theorem next_calls {w : World} {hb : Nat} {S : Nat → Prop} {L : Fo} (h : FoAt w hb S L) (hW : WF L) (id : Int) :
    Calls Try.prog 52 #[ptr hb, I id] w fun e w' => e = .returned (I (nextL L id)) ∧ Below w.heap.size w w' := by
  obtain ⟨K, hK⟩ : ∃ K, sibL L id = K := ⟨_, rfl⟩
  by_cases hc : there L id = false ∨ par L id = 0
  · have e1 : nextL L id = 0 := by unfold nextL; rw [if_pos hc]
    have e2 : idxL L id = -1 := by unfold idxL; rw [if_pos hc]
    rw [e1]
    clear e1
    have H := Lib.hid h
    have HW := Lib.hid hW
    have HK := Lib.hid hK
    have E2 := Lib.hid e2
    clear h hW hK e2
    clear hc
    go_enter Try.func52, Try.ntmps52
    go_wp2_with fail
    refine (kids_calls H.out HW.out id).mono ?_
    rw [E2.out, HK.out]
    rintro e w1 ⟨ka, kc, rfl, _, hb1⟩
    have HB1 := Lib.hid hb1
    clear hb1
    go_wp2
    go_ret
    exact ⟨rfl, HB1.out⟩
  · have hc' : there L id = true ∧ par L id ≠ 0 := by
      simp only [not_or, Bool.not_eq_false] at hc; exact hc
    have hm := mem_sib hW hc'.1 hc'.2
    have e0 : (nd L (par L id)).kids = K := by rw [← hK]; unfold sibL; rw [if_neg hc]
    have e1 : nextL L id = K.getD (K.idxOf id + 1) 0 := by unfold nextL; rw [if_neg hc, e0]
    have e2 : idxL L id = (K.idxOf id : Int) := by unfold idxL; rw [if_neg hc, e0]
    have hl : K.length ≤ 128 := by rw [← e0]; exact Nat.le_trans (hW.kids_len _) hW.len
    rw [e0] at hm
    have hlt := List.idxOf_lt_length_of_mem hm
    obtain ⟨q, hq⟩ : ∃ q, K.idxOf id = q := ⟨_, rfl⟩
    rw [hq] at e1 e2 hlt
    rw [e1]
    obtain ⟨n, hn⟩ : ∃ n, K.length = n := ⟨_, rfl⟩
    rw [hn] at hl hlt
    have H := Lib.hid h
    have HW := Lib.hid hW
    have HK := Lib.hid hK
    have E2 := Lib.hid e2
    have HN := Lib.hid hn
    clear h hW hK e2 hn
    clear e0 e1 hm hc hc' hq
    by_cases hlast : q + 1 < n
    · go_enter Try.func52, Try.ntmps52
      go_wp2_with fail
      refine (kids_calls H.out HW.out id).mono ?_
      rw [E2.out, HK.out, HN.out]
      rintro e w1 ⟨ka, kc, rfl, ho, hb1⟩
      have hint := ho.ints
      obtain ⟨ao, cap, e, hc1, hc2, hsl⟩ := hint.open
      rw [HN.out] at e hc1 hsl
      simp only [Value.slice.injEq] at e
      obtain ⟨rfl, _, rfl⟩ := e
      obtain ⟨b, off, rfl⟩ := hsl (by omega)
      have hcell := hint.cellAt (q + 1) (by rw [HN.out]; omega)
      unfold maxLen at hc2
      have HB1 := Lib.hid hb1
      clear ho hint hsl hb1
      go_wp2
      go_ret
      exact ⟨rfl, HB1.out⟩
    · have e3 : K.getD (q + 1) 0 = 0 := by
        rw [List.getD_eq_getElem?_getD, List.getElem?_eq_none (by rw [HN.out]; omega)]; rfl
      rw [e3]
      clear e3
      go_enter Try.func52, Try.ntmps52
      go_wp2_with fail
      refine (kids_calls H.out HW.out id).mono ?_
      rw [E2.out, HK.out, HN.out]
      rintro e w1 ⟨ka, kc, rfl, _, hb1⟩
      have HB1 := Lib.hid hb1
      clear hb1
      go_wp2
      go_ret
      exact ⟨rfl, HB1.out⟩
end Go.Proofs.Ytidekbamlnpglaa

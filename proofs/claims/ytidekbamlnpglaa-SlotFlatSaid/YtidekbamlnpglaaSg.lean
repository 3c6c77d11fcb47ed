/-
  The walk of slot's Flat.
-/
import Derived.Test.YtidekbamlnpglaaSf
namespace Go.Proofs.Ytidekbamlnpglaa
open Go.RowKit Tc

theorem leaf_shown {L : Fo} {y : Int} (h : shownB L y = true) : leaf L y = flat L y := by unfold leaf; rw [if_pos h]
theorem leaf_not {L : Fo} {y : Int} (h : shownB L y = false) : leaf L y = [y] := by unfold leaf; rw [if_neg (by rw [h]; simp)]
theorem onceL_len {L : Fo} (hW : WF L) (s : Int) : (onceL L s).length ≤ 128 := by
  unfold onceL
  split
  · exact Nat.le_trans (List.length_filter_le _ _) (Nat.le_trans (hW.kids_len _) hW.len)
  · unfold assigned
    split
    · simp
    · exact Nat.le_trans (List.length_filter_le _ _) (Nat.le_trans (hW.kids_len _) hW.len)
theorem onceL_some {L : Fo} {s : Int} (h : assigned L s ≠ []) : onceL L s = assigned L s := by unfold onceL; rw [if_neg h]
theorem onceL_none {L : Fo} (hW : WF L) {s : Int} (h : assigned L s = []) : onceL L s = (nd L s).kids.filter fun x => there L x && decide ((nd L x).kind = 2) := by
  unfold onceL
  rw [if_pos h]
  refine List.filter_congr fun x hx => ?_
  rw [hW.there_of_kid hx, Bool.true_and]

set_option maxRecDepth 100000 in
set_option maxHeartbeats 3200000 in
theorem flat_calls {hb : Nat} {S : Nat → Prop} {L : Fo} (hW : WF L) : ∀ (n : Nat) (s : Int), fm L s ≤ n → ∀ (w : World), FoAt w hb S L →
    Calls Try.prog 46 #[ptr hb, I s] w fun e w' => ∃ v, e = .returned v ∧ OwnI w' w.heap.size v (flat L s) ∧ Below w.heap.size w w'
  | 0, s, h0, _, _ => by have := fm_pos hW s; omega
  | n + 1, s, hn, w, h => by
    have ih := flat_calls (hb := hb) (S := S) hW n
    have IH := Lib.hid ih
    have H := Lib.hid h
    have HW := Lib.hid hW
    obtain ⟨x, hx⟩ : ∃ x, nd L s = x := ⟨_, rfl⟩
    have HX := Lib.hid hx
    obtain ⟨R, hR⟩ : ∃ R, flat L s = R := ⟨_, rfl⟩
    have HR := Lib.hid hR
    have hRl : R.length ≤ 128 := by rw [← hR]; exact Nat.le_trans (flat_length hW s) hW.len
    rw [hR]
    cases hs : shownB L s
    · have hr0 : R = [] := by rw [← hR]; exact flat_not hs
      subst hr0
      have HS := Lib.hid hs
      clear ih h hW hx hR hn hs
      go_enter Try.func46, Try.ntmps46
      go_wp2_with fail
      refine (shown_calls H.out HW.out s).mono ?_
      rw [HS.out]
      rintro e w1 ⟨ka, kc, rfl, _, hb1⟩
      have HB1 := Lib.hid hb1
      clear hb1
      go_wp2
      go_ret
      exact ⟨_, rfl, World.ownsRow_nil _ _ _ _, Below.step HB1.out (below1 _ _)⟩
    · have hfl := flat_leaf hW hs
      obtain ⟨l, hl⟩ : ∃ l, onceL L s = l := ⟨_, rfl⟩
      rw [hl, hR] at hfl
      have hfm : ∀ y, y ∈ l → fm L y ≤ n := fun y hy => by have := fm_once hW hs (hl ▸ hy); omega
      have hll : l.length ≤ 128 := by rw [← hl]; exact onceL_len hW s
      obtain ⟨nk, hnk⟩ : ∃ nk, l.length = nk := ⟨_, rfl⟩
      rw [hnk] at hll
      have HS := Lib.hid hs
      have HFL := Lib.hid hfl
      have HL := Lib.hid hl
      have HFM := Lib.hid hfm
      have HNK := Lib.hid hnk
      clear ih h hW hx hR hn hs hfl hl hfm hnk
      go_enter Try.func46, Try.ntmps46
      go_wp2_with fail
      refine (shown_calls H.out HW.out s).mono ?_
      rw [HS.out, HX.out]
      rintro e w1 ⟨ka, kc, rfl, ho1, hb1⟩
      have HO1 := Lib.hid ho1
      have HB1 := Lib.hid hb1
      clear ho1 hb1
      go_wp2_with fail
      refine (assigned_calls (H.out.below (Below.step HB1.out (below1 _ _))) HW.out s).mono ?_
      rintro e w2 ⟨v2, rfl, ho2, hb2⟩
      have HB2 := Lib.hid hb2
      obtain ⟨a2, c2, e2, _, _, _⟩ := ho2.ints.open
      subst e2
      have HO2 := Lib.hid ho2
      have hk8 : w2.cell? ⟨w1.heap.size, 8, none⟩ = some (.slice ka x.kids.length kc) := cell_go hb2 (cell_new rfl rfl)
      have lk8 := cell_lt hk8
      clear hb2 ho2
      go_upto_if 26 with fail
      go_cut [7] (fun s7 wx => ∃ a c, s7 = .slice a nk c ∧ IntsAt wx (.slice a nk c) l ∧ Below w2.heap.size w2 wx)
      case first =>
        by_cases hz : assigned L s = []
        · have HZ := Lib.hid hz
          have hz0 : ((assigned L s).length : Int) = 0 := by rw [hz]; rfl
          clear hz
          rw [hz0]
          go_wp2_with fail
          refine (pick_calls (H.out.below (Below.step (Below.step HB1.out (below1 _ _)) HB2.out)) (flat1_on _ L) enF ((HO1.out.ints.below (below1 _ _)).below HB2.out) (by rw [← HX.out]; have := HW.out.kids_len s; have := HW.out.len; omega)).mono ?_
          rw [← HX.out, ← onceL_none HW.out HZ.out, HL.out]
          rintro e w3 ⟨v3, rfl, ho3, hb3⟩
          obtain ⟨a3, c3, e3, _, _, _⟩ := ho3.ints.open
          subst e3
          have HO3 := Lib.hid ho3
          have HB3 := Lib.hid hb3
          clear ho3 hb3
          rw [HNK.out]
          go_wp2_with fail
          go_meet
          exact ⟨a3, c3, rfl, by have := HO3.out.ints; rw [HNK.out] at this; exact this, HB3.out⟩
        · have e2 : assigned L s = l := by rw [← HL.out, onceL_some hz]
          rw [e2, HNK.out]
          have HA := Lib.hid e2
          have hne : ((nk : Int) == 0) = false := by
            rw [beq_eq_false_iff_ne]
            intro e3
            apply hz
            rw [e2]
            exact List.eq_nil_of_length_eq_zero (by rw [HNK.out]; omega)
          clear e2 hz
          go_wp2_with fail
          go_meet
          exact ⟨a2, c2, rfl, by have := HO2.out.ints; rw [HA.out, HNK.out] at this; exact this, Below.refl _ _⟩
      case rest =>
        obtain ⟨a, c, rfl, hint, hbel⟩ := hcut
        have HBL := Lib.hid (Below.step (Below.step (Below.step HB1.out (below1 _ _)) HB2.out) hbel)
        obtain ⟨ao, cap, e, hc1, hc2, hsl⟩ := hint.open
        rw [HNK.out] at e hc1 hsl
        simp only [Value.slice.injEq] at e
        obtain ⟨rfl, _, rfl⟩ := e
        unfold maxLen at hc2
        have HI := Lib.hid hint
        have HSL := Lib.hid hsl
        clear hint hbel hsl
        obtain ⟨W, hW0⟩ : ∃ W, wc = W := ⟨_, rfl⟩
        subst hW0
        go_wp2
        go_loopw [8, 33] (fun o i wr => ∃ q : Nat, i = I q ∧ q ≤ nk ∧ (∃ oa oc, o = .slice oa ((l.take q).flatMap (leaf L)).length oc) ∧ OwnI wr wc.heap.size o ((l.take q).flatMap (leaf L)) ∧ Below wc.heap.size wc wr) (fun _ i _ => nk - (intOf i).toNat)
        case atStart => exact ⟨0, rfl, by omega, ⟨none, 0, rfl⟩, World.ownsRow_nil _ _ _ _, Below.refl _ _⟩
        case round =>
          obtain ⟨q, rfl, hq, ⟨oa, oc, rfl⟩, hown, hb⟩ := hrel
          have HOW := Lib.hid hown
          have HB := Lib.hid hb
          clear hown hb
          by_cases hlt : q < nk
          · obtain ⟨bb, off, e⟩ := HSL.out (by omega)
            subst e
            have hcell := (HI.out.below HB.out).cellAt q (by rw [HNK.out]; exact hlt)
            obtain ⟨y, hy⟩ : ∃ y, l.getD q 0 = y := ⟨_, rfl⟩
            rw [hy] at hcell
            have hym : y ∈ l := by rw [← hy]; exact getD_mem (by rw [HNK.out]; exact hlt)
            have hft := flat_take (f := leaf L) (l := l) (q := q) (by rw [HNK.out]; exact hlt)
            rw [hy] at hft
            have hle : ((l.take q).flatMap (leaf L)).length + (leaf L y).length ≤ 128 := by
              have h1 := flat_le (f := leaf L) l (q + 1)
              rw [hft, ← HFL.out] at h1
              simp only [List.length_append] at h1
              omega
            obtain ⟨acc, hacc⟩ : ∃ acc, (l.take q).flatMap (leaf L) = acc := ⟨_, rfl⟩
            rw [hacc] at hft hle HOW ⊢
            have HFT := Lib.hid hft
            have HYM := Lib.hid hym
            have hsz := HBL.out.size
            have hsz2 := HB.out.size
            clear hy hym hft hacc
            cases hsy : shownB L y
            · rw [leaf_not hsy] at HFT hle
              have HSY := Lib.hid hsy
              clear hsy
              go_wp2_with fail
              refine (shown_calls (H.out.below (Below.step HBL.out HB.out)) HW.out y).mono ?_
              rw [HSY.out]
              rintro e w5 ⟨ka5, kc5, rfl, _, hb5⟩
              have HB5 := Lib.hid hb5
              have hsz5 := hb5.size
              clear hb5
              go_wp2_with (at_builtin; go_must (refine appI rfl (.tmp 49) (.tmp 51) rfl wc.heap.size _ acc rfl (ownI_below (ownI_below (ownI_below HOW.out HB5.out) (below1 _ _)) (below1 _ _)) _ [y] rfl (IntsAt.one' (by simp)) (by simp at hle ⊢; omega) (by simp; omega) ?_); intro v' w' hown hg; obtain ⟨ov, ocp, eo⟩ := hown.shape; subst eo; have HOWN := Lib.hid hown; have HG := Lib.hid hg; clear hown hg)
              go_roundw
              case rel =>
                refine ⟨q + 1, by go_num, by omega, ⟨ov, ocp, by rw [HFT.out]; simp⟩, by rw [HFT.out]; exact (by have := HOWN.out; simpa using this), ?_⟩
                exact grown_below (Below.step (Below.step (Below.step HB.out HB5.out) (below1 _ _)) (below1 _ _)) (ownI_below (ownI_below (ownI_below HOW.out HB5.out) (below1 _ _)) (below1 _ _)) HG.out (by simp; omega) (Nat.le_refl _)
              case measure => simp [intOf]; omega
            · rw [leaf_shown hsy] at HFT hle
              have HSY := Lib.hid hsy
              clear hsy
              go_wp2_with fail
              refine (shown_calls (H.out.below (Below.step HBL.out HB.out)) HW.out y).mono ?_
              rw [HSY.out]
              rintro e w5 ⟨ka5, kc5, rfl, _, hb5⟩
              have HB5 := Lib.hid hb5
              have hsz5 := hb5.size
              clear hb5
              go_wp2_with fail
              refine (IH.out y (HFM.out y HYM.out) _ (H.out.below (Below.step (Below.step (Below.step HBL.out HB.out) HB5.out) (below1 _ _)))).mono ?_
              rintro e w6 ⟨v6, rfl, ho6, hb6⟩
              have HO6 := Lib.hid ho6
              have HB6 := Lib.hid hb6
              have hsz6 := hb6.size
              clear ho6 hb6
              go_wp2_with (at_builtin; go_must (refine appI rfl (.tmp 44) (.tmp 47) rfl wc.heap.size _ acc rfl (ownI_below (ownI_below (ownI_below HOW.out HB5.out) (below1 _ _)) HB6.out) _ (flat L y) rfl HO6.out.ints (by omega) (by simp at hsz6; omega) ?_); intro v' w' hown hg; obtain ⟨ov, ocp, eo⟩ := hown.shape; subst eo; have HOWN := Lib.hid hown; have HG := Lib.hid hg; clear hown hg)
              go_roundw
              case rel =>
                refine ⟨q + 1, by go_num, by omega, ⟨ov, ocp, by rw [HFT.out]; simp⟩, by rw [HFT.out]; exact (by have := HOWN.out; simpa using this), ?_⟩
                exact grown_below (Below.step (Below.step (Below.step HB.out HB5.out) (below1 _ _)) HB6.out) (ownI_below (ownI_below (ownI_below HOW.out HB5.out) (below1 _ _)) HB6.out) HG.out (by simp at hsz6; omega) (Nat.le_refl _)
              case measure => simp [intOf]; omega
          · have e : q = nk := by omega
            subst e
            have hfull : (l.take q).flatMap (leaf L) = R := by rw [List.take_of_length_le (by rw [HNK.out]; exact Nat.le_refl _), ← HFL.out]
            rw [hfull] at HOW ⊢
            clear hfull
            go_wp2
            go_ret
            exact ⟨_, rfl, ownsRow_base HOW.out HBL.out.size, Below.step HBL.out HB.out⟩
end Go.Proofs.Ytidekbamlnpglaa

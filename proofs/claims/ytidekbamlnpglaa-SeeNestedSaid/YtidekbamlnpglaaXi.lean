/-
  The walk of see.From.
-/
import Derived.Test.YtidekbamlnpglaaXh
namespace Go.Proofs.Ytidekbamlnpglaa
open Go.RowKit Tc

set_option maxRecDepth 100000 in
set_option maxHeartbeats 6400000 in
theorem from_calls {w : World} {v : Value} {P : List Sp} (h : StepsAt w v P) (hPl : P.length ≤ 1000) (hlt : ∀ k, sliceBlock v = some k → k < w.heap.size) (node : Int) :
    Calls Try.prog 75 #[v, I node] w fun e w' => ∃ v', e = .returned v' ∧ OwnI w' w.heap.size v' (fromL P node) ∧ Below w.heap.size w w' := by
  obtain ⟨ao, cap, rfl, hc1, hc2, hsl⟩ := h.open
  have HP := Lib.hid h
  have HLT := Lib.hid hlt
  rcases hp : placeL P node with _ | ⟨i, lv⟩
  · have he : fromL P node = [] := by unfold fromL; rw [hp]
    have HPL := Lib.hid (plAt_none hp)
    rw [he]
    clear h hlt hp he hsl
    go_enter Try.func75, Try.ntmps75
    go_wp2_with (first
      | (go_at_call 118; refine (place_calls hPl HP.out HLT.out node).mono ?_; rw [HPL.out]; rintro e w1 ⟨rfl, hb1⟩; have HB1 := Lib.hid hb1; clear hb1)
      | fail)
    go_ret
    exact ⟨_, rfl, World.ownsRow_nil _ _ _ _, HB1.out⟩
  · obtain ⟨hi, hv1, hv2⟩ := placeL_lt hp
    obtain ⟨R1, hR1⟩ : ∃ R, walkL Sp.cr Sp.cs (P.take i).reverse lv lv = R := ⟨_, rfl⟩
    obtain ⟨R2, hR2⟩ : ∃ R, walkL Sp.cs Sp.cr (P.drop (i + 1)) lv lv = R := ⟨_, rfl⟩
    have he : fromL P node = R1.reverse ++ [node] ++ R2 := by unfold fromL; rw [hp]; simp only [hR1, hR2]; simp
    have l1 : R1.length ≤ 1000 := by rw [← hR1]; refine Nat.le_trans (walkL_len _ _ _) ?_; simp; omega
    have l2 : R2.length ≤ 1000 := by rw [← hR2]; refine Nat.le_trans (walkL_len _ _ _) ?_; simp; omega
    obtain ⟨b, off, e⟩ := hsl (by omega)
    subst e
    have hs1 := stepsAt_sub h 0 i cap (by omega) (by omega) (by omega) hc2
    rw [List.drop_zero, Nat.zero_mul, Nat.add_zero, Nat.sub_zero] at hs1
    have hs2 := stepsAt_sub h (i + 1) P.length (cap - (i + 1)) (by omega) (by omega) (by omega) (by unfold maxLen at *; omega)
    rw [List.take_length] at hs2
    have hs3 : cap = i + 1 → StepsAt w (.slice (some ⟨b, off, none⟩) (P.length - (i + 1)) 0) (P.drop (i + 1)) := by
      intro hc
      have := stepsAt_sub h 0 0 0 (by omega) (by omega) (by omega) (by unfold maxLen; omega)
      rw [Nat.zero_mul, Nat.add_zero] at this
      rw [show P.length - (i + 1) = 0 - 0 by omega, List.drop_of_length_le (by omega)]
      exact this
    obtain ⟨n, hn⟩ : ∃ n, P.length = n := ⟨_, rfl⟩
    rw [hn] at h hlt hc1 hs2 hs3 hi hPl hv1 hv2 HP HLT ⊢
    have hq1 : (P.take i).length = i := by simp; omega
    have hq2 : (P.drop (i + 1)).length ≤ 1000 := by simp; omega
    obtain ⟨A, hA⟩ : ∃ A, P.take i = A := ⟨_, rfl⟩
    obtain ⟨D, hD⟩ : ∃ D, P.drop (i + 1) = D := ⟨_, rfl⟩
    rw [hA] at hR1 hs1 hq1
    rw [hD] at hR2 hs2 hs3 hq2
    have HN := Lib.hid hn
    have HPL := Lib.hid (plAt_some hp)
    have HR1 := Lib.hid hR1
    have HR2 := Lib.hid hR2
    have HS1 := Lib.hid hs1
    have HS2 := Lib.hid hs2
    have HS2B := Lib.hid hs3
    have HQ1 := Lib.hid hq1
    rw [he]
    unfold maxLen at hc2
    clear h hlt hp he hsl hn hR1 hR2 hs1 hs2 hs3 hA hD hq1
    have i0 : (0 : Int) ≤ (i : Int) := by omega
    have i1 : (i : Int) < (n : Int) := by omega
    go_enter Try.func75, Try.ntmps75
    go_wp2_with (first
      | (go_at_call 118; refine (HN.out ▸ place_calls (by rw [HN.out]; exact hPl) (HN.out ▸ HP.out) (HN.out ▸ HLT.out) node).mono ?_; rw [HPL.out]; rintro e w1 ⟨rfl, hb1⟩; have HB1 := Lib.hid hb1; clear hb1)
      | (go_at_call 119; refine (cloneP_calls (HS1.out.below HB1.out) (by rw [HQ1.out]; omega)).mono ?_; rintro e w2 ⟨g, cp, rfl, hown2, hb2⟩; have HO2 := Lib.hid hown2; have HB2 := Lib.hid (Below.step HB1.out hb2); clear hown2 hb2)
      | (go_at_call 120; refine (reverseP_calls HO2.out (by rw [HQ1.out]; omega)).mono ?_; rintro e w3 ⟨rfl, hown3, hb3⟩; have HO3 := Lib.hid hown3; have HB3 := Lib.hid (HB2.out.trans (hb3.mono HB1.out.size)); clear hown3 hb3)
      | (go_at_call 121; (with_reducible refine (swalk_calls HO3.out.steps (by rw [List.length_reverse, HQ1.out]; omega) root_fn enRt slot_fn enSl (by decide) lv ⟨by omega, by omega⟩).mono ?_); rw [HR1.out]; rintro e w4 ⟨v4, rfl, hown4, hb4⟩; obtain ⟨oa4, oc4, e4⟩ := hown4.shape; subst e4; have HO4 := Lib.hid hown4; have HB4 := Lib.hid (Below.step HB3.out hb4); have HS3 := Lib.hid HB3.out.size; have HSZ4 := hb4.size; clear hown4 hb4)
      | (go_at_call 124; (with_reducible refine (reverseI_calls HO4.out (by omega)).mono ?_); rintro e w5 ⟨rfl, hown5, hb5⟩; have HO5 := Lib.hid hown5; have HB5 := Lib.hid (HB4.out.trans (hb5.mono HS3.out)); have hz5 : w3.heap.size ≤ w5.heap.size := Nat.le_trans HSZ4 hb5.size; clear hown5 hb5)
      | (at_builtin; (refine appI rfl (.tmp 28) (.tmp 30) rfl w3.heap.size _ R1.reverse rfl (ownI_below HO5.out (below1 _ _)) _ [node] rfl (IntsAt.one' (by simp)) (by simp <;> omega) (by simp <;> omega) ?_; intro v6 w6 hown hg; obtain ⟨ov, ocp, eo⟩ := hown.shape; subst eo; have HO6 := Lib.hid (show OwnI w6 w3.heap.size (.slice ov (R1.length + 1) ocp) (R1.reverse ++ [node]) from (by simpa using hown)); have HB6 := Lib.hid (grown_below (Below.step HB5.out (below1 _ _)) (ownI_below HO5.out (below1 _ _)) hg (by have := HB5.out.size; simp <;> omega) HS3.out); have hz6 : w3.heap.size ≤ w6.heap.size := Nat.le_trans hz5 (Nat.le_trans (below1 w5 _).size hg.size); clear hown hg))
      | (go_at_call 121; (with_reducible refine (swalk_calls (HS2.out.below HB6.out) hq2 slot_fn enSl root_fn enRt (by decide) lv ⟨by omega, by omega⟩).mono ?_); rw [HR2.out]; rintro e w7 ⟨v7, rfl, hown7, hb7⟩; have HO7 := Lib.hid hown7; have HB7 := Lib.hid (Below.step HB6.out hb7); have HO6' := Lib.hid (ownI_below HO6.out hb7); have hz7 : w3.heap.size ≤ w7.heap.size := Nat.le_trans hz6 hb7.size; clear hown7 hb7)
      | (go_at_call 121; (with_reducible refine (swalk_calls ((HS2B.out ‹_›).below HB6.out) hq2 slot_fn enSl root_fn enRt (by decide) lv ⟨by omega, by omega⟩).mono ?_); rw [HR2.out]; rintro e w7 ⟨v7, rfl, hown7, hb7⟩; have HO7 := Lib.hid hown7; have HB7 := Lib.hid (Below.step HB6.out hb7); have HO6' := Lib.hid (ownI_below HO6.out hb7); have hz7 : w3.heap.size ≤ w7.heap.size := Nat.le_trans hz6 hb7.size; clear hown7 hb7)
      | (at_builtin; (refine appI rfl (.tmp 32) (.tmp 38) rfl w3.heap.size (.slice ov (R1.length + 1) ocp) (R1.reverse ++ [node]) rfl HO6'.out _ R2 rfl HO7.out.ints (by simp <;> omega) hz7 ?_; intro v8 w8 hown hg; have HO8 := Lib.hid hown; have HB8 := Lib.hid (grown_below HB7.out HO6'.out hg HB7.out.size HS3.out); clear hown hg))
      | fail)
    all_goals go_ret
    all_goals exact ⟨_, rfl, ownsRow_rebase HO8.out (fun k hk => Nat.le_trans HS3.out (HO8.out.lt k hk).1), HB8.out⟩
end Go.Proofs.Ytidekbamlnpglaa

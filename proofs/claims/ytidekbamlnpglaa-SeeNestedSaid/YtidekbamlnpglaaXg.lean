/-
  The walks of see's root, slot and walk.
-/
import Derived.Test.YtidekbamlnpglaaXf
namespace Go.Proofs.Ytidekbamlnpglaa
open Go.RowKit Tc

abbrev spV (s : Sp) : Value := .agg #[I s.node, I s.target, I s.related, .bool s.cr, .bool s.cs]
/-- A test on entries. -/
def StepFn (k : Nat) (m : Sp → Bool) : Prop := ∀ (w : World) (s : Sp), Calls Try.prog k #[spV s] w fun e w' => e = .returned (.bool (m s)) ∧ Below w.heap.size w w'
theorem root_fn : StepFn 122 Sp.cr := by
  intro w s
  go_enter Try.func122, Try.ntmps122
  go_wp2
  go_ret
  exact ⟨rfl, below1 _ _⟩
theorem slot_fn : StepFn 123 Sp.cs := by
  intro w s
  go_enter Try.func123, Try.ntmps123
  go_wp2
  go_ret
  exact ⟨rfl, below1 _ _⟩
theorem enRt : EntersF 122 := Go.Proofs.enters_of Try.func122 (by kernel_rfl) rfl
theorem enSl : EntersF 123 := Go.Proofs.enters_of Try.func123 (by kernel_rfl) rfl
theorem walkL_step {more less : Sp → Bool} {l : List Sp} {q : Nat} {s : Sp} (hs : l[q]? = some s) (lv lim : Int) : walkL more less (l.drop q) lv lim = (if lv + b2 (more s) ≤ lim then [s.node] else []) ++ walkL more less (l.drop (q + 1)) (lv + b2 (more s) - b2 (less s)) (if less s = true then min lim (lv + b2 (more s) - 1) else lim) := by
  have hq := (List.getElem?_eq_some_iff.1 hs).1
  have e := (List.getElem?_eq_some_iff.1 hs).2
  rw [List.drop_eq_getElem_cons hq, e, walkL]
theorem walkL_len {more less : Sp → Bool} : ∀ (l : List Sp) (lv lim : Int), (walkL more less l lv lim).length ≤ l.length
  | [], _, _ => by simp [walkL]
  | s :: r, lv, lim => by
    rw [walkL, List.length_append]
    have := walkL_len (more := more) (less := less) r (lv + b2 (more s) - b2 (less s)) (if less s = true then min lim (lv + b2 (more s) - 1) else lim)
    simp only [List.length_cons]
    split <;> simp <;> omega

set_option maxRecDepth 100000 in
set_option maxHeartbeats 6400000 in
theorem swalk_calls {w : World} {v : Value} {l : List Sp} (h : StepsAt w v l) (hl : l.length ≤ 1000) {kM kL : Nat} {more less : Sp → Bool} (hM : StepFn kM more) (eM : EntersF kM) (hL : StepFn kL less) (eL : EntersF kL) (hne : kM ≠ kL) (level : Int) (hlv : -2000 ≤ level ∧ level ≤ 2000) :
    Calls Try.prog 121 #[v, I level, .func (.func kM) #[] #[], .func (.func kL) #[] #[]] w fun e w' => ∃ v', e = .returned v' ∧ OwnI w' w.heap.size v' (walkL more less l level level) ∧ Below w.heap.size w w' := by
  obtain ⟨ao, cap, rfl, hc1, hc2, hsl⟩ := h.open
  obtain ⟨n, hn⟩ : ∃ n, l.length = n := ⟨_, rfl⟩
  have HN := Lib.hid hn
  rw [hn] at h hc1 hsl hl ⊢
  unfold maxLen at hc2
  have HP := Lib.hid h
  have HSL := Lib.hid hsl
  have HM := Lib.hid hM
  have HL := Lib.hid hL
  have HLV := Lib.hid hlv
  obtain ⟨R, hR⟩ : ∃ R, walkL more less l level level = R := ⟨_, rfl⟩
  have hRl : R.length ≤ 1000 := by rw [← hR]; exact Nat.le_trans (walkL_len l level level) (by omega)
  rw [hR]
  have HR := Lib.hid hR
  have HNE := Lib.hid hne
  clear h hn hsl hM hL hlv hR hne
  go_enter Try.func121, Try.ntmps121
  go_wp2
  go_loopw [1, 9, 10, 16] (fun s1 s9 s10 s16 wr => ∃ (q : Nat) (lv lim : Int) (acc : List Int), s1 = I lv ∧ s9 = I lim ∧ s16 = I q ∧ q ≤ n ∧ (∃ oa oc, s10 = .slice oa acc.length oc) ∧ OwnI wr w.heap.size s10 acc ∧ R = acc ++ walkL more less (l.drop q) lv lim ∧ Below w.heap.size w wr ∧ (-2000 - (q : Int) ≤ lv ∧ lv ≤ 2000 + (q : Int)) ∧ (-2000 - (q : Int) ≤ lim ∧ lim ≤ 2000 + (q : Int))) (fun _ _ _ s16 _ => n - (intOf s16).toNat)
  case atStart => exact ⟨0, level, level, [], rfl, rfl, rfl, by omega, ⟨none, 0, rfl⟩, World.ownsRow_nil _ _ _ _, HR.out.symm, Below.refl _ _, by have := HLV.out; simp; omega, by have := HLV.out; simp; omega⟩
  case round =>
    obtain ⟨q, lv, lim, acc, rfl, rfl, rfl, hq, ⟨oa, oc, rfl⟩, hown, hr, hbel, ⟨hv1, hv2⟩, ⟨hm1, hm2⟩⟩ := hrel
    have HO := Lib.hid hown
    have HRR := Lib.hid hr
    have HB := Lib.hid hbel
    have hacc : acc.length ≤ 1000 := by
      have := congrArg List.length hr
      rw [List.length_append] at this; omega
    clear hown hr hbel
    by_cases hlt : q < n
    · obtain ⟨b, off, e⟩ := HSL.out (by omega)
      subst e
      have hlt' : q < l.length := by rw [HN.out]; exact hlt
      have hsp := (HP.out.below HB.out).at q hlt'
      obtain ⟨s, hs⟩ : ∃ s, l[q]'hlt' = s := ⟨_, rfl⟩
      have hss : l[q]? = some s := by rw [List.getElem?_eq_getElem hlt', hs]
      rw [hs] at hsp
      have hst := walkL_step (more := more) (less := less) hss lv lim
      obtain ⟨c0, c1, c2, c3, c4⟩ := hsp
      have hb0 : (0 : Int) ≤ (q : Int) := by omega
      have hb1 : (q : Int) < (n : Int) := by omega
      have hlb := cell_lt c0
      obtain ⟨mv, hmv⟩ : ∃ mv, more s = mv := ⟨_, rfl⟩
      obtain ⟨sv, hsv⟩ : ∃ sv, less s = sv := ⟨_, rfl⟩
      rw [hmv, hsv] at hst
      have HST := Lib.hid hst
      have HMV := Lib.hid hmv
      have HSV := Lib.hid hsv
      clear hs hss hst hmv hsv hlt'
      obtain ⟨sn, st, sr, sc, ss⟩ := s
      simp only at c0 c1 c2 c3 c4
      cases mv
      · skip
        by_cases hle : lv ≤ lim
        · cases sv
          · have HE := Lib.hid (show R = (acc ++ [sn]) ++ walkL more less (l.drop (q + 1)) (lv) (lim) from by
              rw [HRR.out, HST.out]
              rw [show lv + b2 false = lv from by simp [b2]]
              rw [show lv - b2 false = lv from by simp [b2]]
              rw [if_pos (show lv ≤ lim from hle)]
              simp)
            clear HST HRR
            go_wp2_with (first
              | (go_at_fn kM; refine (HM.out _ (⟨sn, st, sr, sc, ss⟩ : Sp)).mono ?_; rw [HMV.out]; rintro e w5 ⟨rfl, hb5⟩; have d0 := cell_go hb5 (cell_new (o := 0) (v := I sn) rfl rfl); have d1 := cell_go hb5 (cell_new (o := 1) (v := I st) rfl rfl); have d2 := cell_go hb5 (cell_new (o := 2) (v := I sr) rfl rfl); have d3 := cell_go hb5 (cell_new (o := 3) (v := .bool sc) rfl rfl); have d4 := cell_go hb5 (cell_new (o := 4) (v := .bool ss) rfl rfl); have ld := cell_lt d0; have HB5 := Lib.hid (Below.step (below1 _ _) hb5); clear hb5)
              | (at_builtin; go_must (refine appI rfl (.tmp 28) (.tmp 31) rfl w.heap.size _ acc rfl (ownI_below (ownI_below HO.out HB5.out) (below1 _ _)) _ [sn] rfl (IntsAt.one' (by simp)) (by simp; omega) (by have := HB.out.size; have := HB5.out.size; simp; omega) ?_); intro v' w6 hown hg; obtain ⟨ov, ocp, eo⟩ := hown.shape; subst eo; have a0 := (app_cell HO.out hg wr.heap.size 0 (Nat.le_refl _) (by have := HB5.out.size; simp; omega)).trans (cell_alloc d0); have a1 := (app_cell HO.out hg wr.heap.size 1 (Nat.le_refl _) (by have := HB5.out.size; simp; omega)).trans (cell_alloc d1); have a2 := (app_cell HO.out hg wr.heap.size 2 (Nat.le_refl _) (by have := HB5.out.size; simp; omega)).trans (cell_alloc d2); have a3 := (app_cell HO.out hg wr.heap.size 3 (Nat.le_refl _) (by have := HB5.out.size; simp; omega)).trans (cell_alloc d3); have a4 := (app_cell HO.out hg wr.heap.size 4 (Nat.le_refl _) (by have := HB5.out.size; simp; omega)).trans (cell_alloc d4); have HOW := Lib.hid hown; have HB6 := Lib.hid (grown_below (Below.step (Below.step HB.out HB5.out) (below1 _ _)) (ownI_below (ownI_below HO.out HB5.out) (below1 _ _)) hg (by have := HB.out.size; have := HB5.out.size; simp; omega) (Nat.le_refl _)); clear hown hg)
              | (go_at_fn kL; refine (HL.out _ (⟨sn, st, sr, sc, ss⟩ : Sp)).mono ?_; rw [HSV.out]; rintro e w7 ⟨rfl, hb7⟩; have HB7 := Lib.hid hb7; clear hb7)
              | fail)
            go_roundw
            case rel => exact ⟨q + 1, lv, lim, acc ++ [sn], rfl, rfl, by go_num, by omega, ⟨ov, ocp, by simp⟩, by have := ownI_below HOW.out HB7.out; simpa using this, HE.out, Below.step HB6.out HB7.out, by omega, by omega⟩
            case measure => simp [intOf]; omega
          · have HE := Lib.hid (show R = (acc ++ [sn]) ++ walkL more less (l.drop (q + 1)) (lv - 1) (lv - 1) from by
              rw [HRR.out, HST.out]
              rw [show lv + b2 false = lv from by simp [b2]]
              rw [show lv - b2 true = lv - 1 from by simp [b2]]
              rw [if_pos (show lv ≤ lim from hle)]
              rw [show min lim (lv - 1) = lv - 1 from by omega]
              simp)
            clear HST HRR
            go_wp2_with (first
              | (go_at_fn kM; refine (HM.out _ (⟨sn, st, sr, sc, ss⟩ : Sp)).mono ?_; rw [HMV.out]; rintro e w5 ⟨rfl, hb5⟩; have d0 := cell_go hb5 (cell_new (o := 0) (v := I sn) rfl rfl); have d1 := cell_go hb5 (cell_new (o := 1) (v := I st) rfl rfl); have d2 := cell_go hb5 (cell_new (o := 2) (v := I sr) rfl rfl); have d3 := cell_go hb5 (cell_new (o := 3) (v := .bool sc) rfl rfl); have d4 := cell_go hb5 (cell_new (o := 4) (v := .bool ss) rfl rfl); have ld := cell_lt d0; have HB5 := Lib.hid (Below.step (below1 _ _) hb5); clear hb5)
              | (at_builtin; go_must (refine appI rfl (.tmp 28) (.tmp 31) rfl w.heap.size _ acc rfl (ownI_below (ownI_below HO.out HB5.out) (below1 _ _)) _ [sn] rfl (IntsAt.one' (by simp)) (by simp; omega) (by have := HB.out.size; have := HB5.out.size; simp; omega) ?_); intro v' w6 hown hg; obtain ⟨ov, ocp, eo⟩ := hown.shape; subst eo; have a0 := (app_cell HO.out hg wr.heap.size 0 (Nat.le_refl _) (by have := HB5.out.size; simp; omega)).trans (cell_alloc d0); have a1 := (app_cell HO.out hg wr.heap.size 1 (Nat.le_refl _) (by have := HB5.out.size; simp; omega)).trans (cell_alloc d1); have a2 := (app_cell HO.out hg wr.heap.size 2 (Nat.le_refl _) (by have := HB5.out.size; simp; omega)).trans (cell_alloc d2); have a3 := (app_cell HO.out hg wr.heap.size 3 (Nat.le_refl _) (by have := HB5.out.size; simp; omega)).trans (cell_alloc d3); have a4 := (app_cell HO.out hg wr.heap.size 4 (Nat.le_refl _) (by have := HB5.out.size; simp; omega)).trans (cell_alloc d4); have HOW := Lib.hid hown; have HB6 := Lib.hid (grown_below (Below.step (Below.step HB.out HB5.out) (below1 _ _)) (ownI_below (ownI_below HO.out HB5.out) (below1 _ _)) hg (by have := HB.out.size; have := HB5.out.size; simp; omega) (Nat.le_refl _)); clear hown hg)
              | (go_at_fn kL; refine (HL.out _ (⟨sn, st, sr, sc, ss⟩ : Sp)).mono ?_; rw [HSV.out]; rintro e w7 ⟨rfl, hb7⟩; have HB7 := Lib.hid hb7; clear hb7)
              | fail)
            go_roundw
            case rel => exact ⟨q + 1, lv - 1, lv - 1, acc ++ [sn], rfl, rfl, by go_num, by omega, ⟨ov, ocp, by simp⟩, by have := ownI_below HOW.out HB7.out; simpa using this, HE.out, Below.step HB6.out HB7.out, by omega, by omega⟩
            case measure => simp [intOf]; omega
        · cases sv
          · have HE := Lib.hid (show R = (acc) ++ walkL more less (l.drop (q + 1)) (lv) (lim) from by
              rw [HRR.out, HST.out]
              rw [show lv + b2 false = lv from by simp [b2]]
              rw [show lv - b2 false = lv from by simp [b2]]
              rw [if_neg (show ¬ lv ≤ lim from hle)]
              simp)
            clear HST HRR
            go_wp2_with (first
              | (go_at_fn kM; refine (HM.out _ (⟨sn, st, sr, sc, ss⟩ : Sp)).mono ?_; rw [HMV.out]; rintro e w5 ⟨rfl, hb5⟩; have d0 := cell_go hb5 (cell_new (o := 0) (v := I sn) rfl rfl); have d1 := cell_go hb5 (cell_new (o := 1) (v := I st) rfl rfl); have d2 := cell_go hb5 (cell_new (o := 2) (v := I sr) rfl rfl); have d3 := cell_go hb5 (cell_new (o := 3) (v := .bool sc) rfl rfl); have d4 := cell_go hb5 (cell_new (o := 4) (v := .bool ss) rfl rfl); have ld := cell_lt d0; have HB5 := Lib.hid (Below.step (below1 _ _) hb5); clear hb5)
              | (go_at_fn kL; refine (HL.out _ (⟨sn, st, sr, sc, ss⟩ : Sp)).mono ?_; rw [HSV.out]; rintro e w7 ⟨rfl, hb7⟩; have HB7 := Lib.hid hb7; clear hb7)
              | fail)
            go_roundw
            case rel => exact ⟨q + 1, lv, lim, acc, rfl, rfl, by go_num, by omega, ⟨oa, oc, by simp⟩, ownI_below (ownI_below HO.out HB5.out) HB7.out, HE.out, Below.step (Below.step HB.out HB5.out) HB7.out, by omega, by omega⟩
            case measure => simp [intOf]; omega
          · have HE := Lib.hid (show R = (acc) ++ walkL more less (l.drop (q + 1)) (lv - 1) (lim) from by
              rw [HRR.out, HST.out]
              rw [show lv + b2 false = lv from by simp [b2]]
              rw [show lv - b2 true = lv - 1 from by simp [b2]]
              rw [if_neg (show ¬ lv ≤ lim from hle)]
              rw [show min lim (lv - 1) = lim from by omega]
              simp)
            clear HST HRR
            go_wp2_with (first
              | (go_at_fn kM; refine (HM.out _ (⟨sn, st, sr, sc, ss⟩ : Sp)).mono ?_; rw [HMV.out]; rintro e w5 ⟨rfl, hb5⟩; have d0 := cell_go hb5 (cell_new (o := 0) (v := I sn) rfl rfl); have d1 := cell_go hb5 (cell_new (o := 1) (v := I st) rfl rfl); have d2 := cell_go hb5 (cell_new (o := 2) (v := I sr) rfl rfl); have d3 := cell_go hb5 (cell_new (o := 3) (v := .bool sc) rfl rfl); have d4 := cell_go hb5 (cell_new (o := 4) (v := .bool ss) rfl rfl); have ld := cell_lt d0; have HB5 := Lib.hid (Below.step (below1 _ _) hb5); clear hb5)
              | (go_at_fn kL; refine (HL.out _ (⟨sn, st, sr, sc, ss⟩ : Sp)).mono ?_; rw [HSV.out]; rintro e w7 ⟨rfl, hb7⟩; have HB7 := Lib.hid hb7; clear hb7)
              | fail)
            go_roundw
            case rel => exact ⟨q + 1, lv - 1, lim, acc, rfl, rfl, by go_num, by omega, ⟨oa, oc, by simp⟩, ownI_below (ownI_below HO.out HB5.out) HB7.out, HE.out, Below.step (Below.step HB.out HB5.out) HB7.out, by omega, by omega⟩
            case measure => simp [intOf]; omega
      · skip
        by_cases hle : lv + 1 ≤ lim
        · cases sv
          · have HE := Lib.hid (show R = (acc ++ [sn]) ++ walkL more less (l.drop (q + 1)) (lv + 1) (lim) from by
              rw [HRR.out, HST.out]
              rw [show lv + b2 true = lv + 1 from by simp [b2]]
              rw [show lv + 1 - b2 false = lv + 1 from by simp [b2]]
              rw [if_pos (show lv + 1 ≤ lim from hle)]
              simp)
            clear HST HRR
            go_wp2_with (first
              | (go_at_fn kM; refine (HM.out _ (⟨sn, st, sr, sc, ss⟩ : Sp)).mono ?_; rw [HMV.out]; rintro e w5 ⟨rfl, hb5⟩; have d0 := cell_go hb5 (cell_new (o := 0) (v := I sn) rfl rfl); have d1 := cell_go hb5 (cell_new (o := 1) (v := I st) rfl rfl); have d2 := cell_go hb5 (cell_new (o := 2) (v := I sr) rfl rfl); have d3 := cell_go hb5 (cell_new (o := 3) (v := .bool sc) rfl rfl); have d4 := cell_go hb5 (cell_new (o := 4) (v := .bool ss) rfl rfl); have ld := cell_lt d0; have HB5 := Lib.hid (Below.step (below1 _ _) hb5); clear hb5)
              | (at_builtin; go_must (refine appI rfl (.tmp 28) (.tmp 31) rfl w.heap.size _ acc rfl (ownI_below (ownI_below HO.out HB5.out) (below1 _ _)) _ [sn] rfl (IntsAt.one' (by simp)) (by simp; omega) (by have := HB.out.size; have := HB5.out.size; simp; omega) ?_); intro v' w6 hown hg; obtain ⟨ov, ocp, eo⟩ := hown.shape; subst eo; have a0 := (app_cell HO.out hg wr.heap.size 0 (Nat.le_refl _) (by have := HB5.out.size; simp; omega)).trans (cell_alloc d0); have a1 := (app_cell HO.out hg wr.heap.size 1 (Nat.le_refl _) (by have := HB5.out.size; simp; omega)).trans (cell_alloc d1); have a2 := (app_cell HO.out hg wr.heap.size 2 (Nat.le_refl _) (by have := HB5.out.size; simp; omega)).trans (cell_alloc d2); have a3 := (app_cell HO.out hg wr.heap.size 3 (Nat.le_refl _) (by have := HB5.out.size; simp; omega)).trans (cell_alloc d3); have a4 := (app_cell HO.out hg wr.heap.size 4 (Nat.le_refl _) (by have := HB5.out.size; simp; omega)).trans (cell_alloc d4); have HOW := Lib.hid hown; have HB6 := Lib.hid (grown_below (Below.step (Below.step HB.out HB5.out) (below1 _ _)) (ownI_below (ownI_below HO.out HB5.out) (below1 _ _)) hg (by have := HB.out.size; have := HB5.out.size; simp; omega) (Nat.le_refl _)); clear hown hg)
              | (go_at_fn kL; refine (HL.out _ (⟨sn, st, sr, sc, ss⟩ : Sp)).mono ?_; rw [HSV.out]; rintro e w7 ⟨rfl, hb7⟩; have HB7 := Lib.hid hb7; clear hb7)
              | fail)
            go_roundw
            case rel => exact ⟨q + 1, lv + 1, lim, acc ++ [sn], rfl, rfl, by go_num, by omega, ⟨ov, ocp, by simp⟩, by have := ownI_below HOW.out HB7.out; simpa using this, HE.out, Below.step HB6.out HB7.out, by omega, by omega⟩
            case measure => simp [intOf]; omega
          · have HE := Lib.hid (show R = (acc ++ [sn]) ++ walkL more less (l.drop (q + 1)) (lv) (lv) from by
              rw [HRR.out, HST.out]
              rw [show lv + b2 true = lv + 1 from by simp [b2]]
              rw [show lv + 1 - b2 true = lv from by simp [b2]]
              rw [if_pos (show lv + 1 ≤ lim from hle)]
              rw [show min lim (lv + 1 - 1) = lv from by omega]
              simp)
            clear HST HRR
            go_wp2_with (first
              | (go_at_fn kM; refine (HM.out _ (⟨sn, st, sr, sc, ss⟩ : Sp)).mono ?_; rw [HMV.out]; rintro e w5 ⟨rfl, hb5⟩; have d0 := cell_go hb5 (cell_new (o := 0) (v := I sn) rfl rfl); have d1 := cell_go hb5 (cell_new (o := 1) (v := I st) rfl rfl); have d2 := cell_go hb5 (cell_new (o := 2) (v := I sr) rfl rfl); have d3 := cell_go hb5 (cell_new (o := 3) (v := .bool sc) rfl rfl); have d4 := cell_go hb5 (cell_new (o := 4) (v := .bool ss) rfl rfl); have ld := cell_lt d0; have HB5 := Lib.hid (Below.step (below1 _ _) hb5); clear hb5)
              | (at_builtin; go_must (refine appI rfl (.tmp 28) (.tmp 31) rfl w.heap.size _ acc rfl (ownI_below (ownI_below HO.out HB5.out) (below1 _ _)) _ [sn] rfl (IntsAt.one' (by simp)) (by simp; omega) (by have := HB.out.size; have := HB5.out.size; simp; omega) ?_); intro v' w6 hown hg; obtain ⟨ov, ocp, eo⟩ := hown.shape; subst eo; have a0 := (app_cell HO.out hg wr.heap.size 0 (Nat.le_refl _) (by have := HB5.out.size; simp; omega)).trans (cell_alloc d0); have a1 := (app_cell HO.out hg wr.heap.size 1 (Nat.le_refl _) (by have := HB5.out.size; simp; omega)).trans (cell_alloc d1); have a2 := (app_cell HO.out hg wr.heap.size 2 (Nat.le_refl _) (by have := HB5.out.size; simp; omega)).trans (cell_alloc d2); have a3 := (app_cell HO.out hg wr.heap.size 3 (Nat.le_refl _) (by have := HB5.out.size; simp; omega)).trans (cell_alloc d3); have a4 := (app_cell HO.out hg wr.heap.size 4 (Nat.le_refl _) (by have := HB5.out.size; simp; omega)).trans (cell_alloc d4); have HOW := Lib.hid hown; have HB6 := Lib.hid (grown_below (Below.step (Below.step HB.out HB5.out) (below1 _ _)) (ownI_below (ownI_below HO.out HB5.out) (below1 _ _)) hg (by have := HB.out.size; have := HB5.out.size; simp; omega) (Nat.le_refl _)); clear hown hg)
              | (go_at_fn kL; refine (HL.out _ (⟨sn, st, sr, sc, ss⟩ : Sp)).mono ?_; rw [HSV.out]; rintro e w7 ⟨rfl, hb7⟩; have HB7 := Lib.hid hb7; clear hb7)
              | fail)
            go_roundw
            case rel => exact ⟨q + 1, lv, lv, acc ++ [sn], rfl, rfl, by go_num, by omega, ⟨ov, ocp, by simp⟩, by have := ownI_below HOW.out HB7.out; simpa using this, HE.out, Below.step HB6.out HB7.out, by omega, by omega⟩
            case measure => simp [intOf]; omega
        · cases sv
          · have HE := Lib.hid (show R = (acc) ++ walkL more less (l.drop (q + 1)) (lv + 1) (lim) from by
              rw [HRR.out, HST.out]
              rw [show lv + b2 true = lv + 1 from by simp [b2]]
              rw [show lv + 1 - b2 false = lv + 1 from by simp [b2]]
              rw [if_neg (show ¬ lv + 1 ≤ lim from hle)]
              simp)
            clear HST HRR
            go_wp2_with (first
              | (go_at_fn kM; refine (HM.out _ (⟨sn, st, sr, sc, ss⟩ : Sp)).mono ?_; rw [HMV.out]; rintro e w5 ⟨rfl, hb5⟩; have d0 := cell_go hb5 (cell_new (o := 0) (v := I sn) rfl rfl); have d1 := cell_go hb5 (cell_new (o := 1) (v := I st) rfl rfl); have d2 := cell_go hb5 (cell_new (o := 2) (v := I sr) rfl rfl); have d3 := cell_go hb5 (cell_new (o := 3) (v := .bool sc) rfl rfl); have d4 := cell_go hb5 (cell_new (o := 4) (v := .bool ss) rfl rfl); have ld := cell_lt d0; have HB5 := Lib.hid (Below.step (below1 _ _) hb5); clear hb5)
              | (go_at_fn kL; refine (HL.out _ (⟨sn, st, sr, sc, ss⟩ : Sp)).mono ?_; rw [HSV.out]; rintro e w7 ⟨rfl, hb7⟩; have HB7 := Lib.hid hb7; clear hb7)
              | fail)
            go_roundw
            case rel => exact ⟨q + 1, lv + 1, lim, acc, rfl, rfl, by go_num, by omega, ⟨oa, oc, by simp⟩, ownI_below (ownI_below HO.out HB5.out) HB7.out, HE.out, Below.step (Below.step HB.out HB5.out) HB7.out, by omega, by omega⟩
            case measure => simp [intOf]; omega
          · have HE := Lib.hid (show R = (acc) ++ walkL more less (l.drop (q + 1)) (lv) (lim) from by
              rw [HRR.out, HST.out]
              rw [show lv + b2 true = lv + 1 from by simp [b2]]
              rw [show lv + 1 - b2 true = lv from by simp [b2]]
              rw [if_neg (show ¬ lv + 1 ≤ lim from hle)]
              rw [show min lim (lv + 1 - 1) = lim from by omega]
              simp)
            clear HST HRR
            go_wp2_with (first
              | (go_at_fn kM; refine (HM.out _ (⟨sn, st, sr, sc, ss⟩ : Sp)).mono ?_; rw [HMV.out]; rintro e w5 ⟨rfl, hb5⟩; have d0 := cell_go hb5 (cell_new (o := 0) (v := I sn) rfl rfl); have d1 := cell_go hb5 (cell_new (o := 1) (v := I st) rfl rfl); have d2 := cell_go hb5 (cell_new (o := 2) (v := I sr) rfl rfl); have d3 := cell_go hb5 (cell_new (o := 3) (v := .bool sc) rfl rfl); have d4 := cell_go hb5 (cell_new (o := 4) (v := .bool ss) rfl rfl); have ld := cell_lt d0; have HB5 := Lib.hid (Below.step (below1 _ _) hb5); clear hb5)
              | (go_at_fn kL; refine (HL.out _ (⟨sn, st, sr, sc, ss⟩ : Sp)).mono ?_; rw [HSV.out]; rintro e w7 ⟨rfl, hb7⟩; have HB7 := Lib.hid hb7; clear hb7)
              | fail)
            go_roundw
            case rel => exact ⟨q + 1, lv, lim, acc, rfl, rfl, by go_num, by omega, ⟨oa, oc, by simp⟩, ownI_below (ownI_below HO.out HB5.out) HB7.out, HE.out, Below.step (Below.step HB.out HB5.out) HB7.out, by omega, by omega⟩
            case measure => simp [intOf]; omega
    · have e : q = n := by omega
      subst e
      have hfin : R = acc := by
        rw [HRR.out, List.drop_of_length_le (by rw [HN.out]; exact Nat.le_refl _)]; simp [walkL]
      have HF := Lib.hid hfin
      clear hfin
      go_wp2
      go_ret
      rw [HF.out]
      exact ⟨_, rfl, HO.out, HB.out⟩
end Go.Proofs.Ytidekbamlnpglaa

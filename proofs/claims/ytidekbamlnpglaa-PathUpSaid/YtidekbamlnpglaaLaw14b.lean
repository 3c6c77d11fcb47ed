/-
  The walk of the law PathUp.
-/
import Derived.Test.YtidekbamlnpglaaLaw14a
import Derived.Test.YtidekbamlnpglaaHv
import Derived.IntWalk
import Derived.Deep.DeepCutAuto
namespace Go.Proofs.Ytidekbamlnpglaa.K14
open Go.RowKit Tc

set_option maxRecDepth 100000 in
set_option maxHeartbeats 3200000 in
theorem PathUp_walk {w : World} {v : Value} {acts : List Tc.Act} (h : ActsAt w v acts) (target related : Int) (c : Bool) :
    Calls Try.prog 14 #[v, I target, I related, .bool c] w fun e w' => e = .returned (.bool true) ∧ Below w.heap.size w w' := by
  have HA := Lib.hid h
  clear h
  go_enter Try.func14, Try.ntmps14
  go_wp2_with fail
  refine (awake_calls w).mono ?_
  rintro e w1 ⟨rfl, hb1⟩
  have HB1 := Lib.hid hb1
  clear hb1
  go_wp2_with fail
  refine (great_calls (HA.out.below HB1.out)).mono ?_
  obtain ⟨x, hx⟩ : ∃ x, fewB acts = x := ⟨_, rfl⟩
  rw [hx]
  rintro e w2 ⟨rfl, hb2⟩
  have HFW := Lib.hid hx
  have HB2 := Lib.hid hb2
  clear hb2 hx
  cases x
  · go_wp2
    go_ret
    exact ⟨rfl, Below.step HB1.out HB2.out⟩
  go_wp2_with fail
  refine (made_calls ((HA.out.below HB1.out).below HB2.out) HFW.out).mono ?_
  obtain ⟨L, hL⟩ : ∃ L, mades acts = L := ⟨_, rfl⟩
  have hW := WF.mades acts
  rw [hL] at hW ⊢
  have HL := Lib.hid hL
  rintro e w3 ⟨hb, rfl, hfo, hb3⟩
  have H := Lib.hid (St.start HB1.out HB2.out hfo hb3 hW)
  clear hL hW hfo hb3 HA HB1 HB2 HFW
  go_wp2_with fail
  (with_reducible refine (pmake_calls H.out.fo H.out.wf target related c).mono ?_)
  obtain ⟨P, hP⟩ : ∃ P, pathL L target related c = P := ⟨_, rfl⟩
  have hpl : P.length ≤ 200 := by rw [← hP]; exact pathL_le H.out.wf target related c
  rw [hP]
  have HP := Lib.hid hP
  clear hP
  rintro e w4 ⟨pv, rfl, hown, hb4⟩
  have hst := hown.steps
  obtain ⟨ao, cap, rfl, hc1, hc2, hsl⟩ := hst.open
  obtain ⟨n, hn⟩ : ∃ n, P.length = n := ⟨_, rfl⟩
  have HN := Lib.hid hn
  rw [hn] at hst hc1 hsl hpl ⊢
  unfold maxLen at hc2
  have HPS := Lib.hid hst
  have HSL := Lib.hid hsl
  have H4 := Lib.hid (H.out.next hb4)
  clear H hb4
  have H := H4
  clear H4
  clear hn hst hsl hown
  obtain ⟨rt, hrt⟩ : ∃ rt, root L target = rt := ⟨_, rfl⟩
  have HRT := Lib.hid hrt
  clear hrt
  go_wp2_with fail
  (with_reducible refine (root_calls H.out.fo H.out.wf.ends target).mono ?_)
  rw [HRT.out]
  rintro e w5 ⟨rfl, hb5⟩
  have HPS5 := Lib.hid (HPS.out.below hb5)
  have H5 := Lib.hid (H.out.next hb5)
  clear H hb5
  have H := H5
  clear H5
  clear HPS
  go_wp2
  go_loopw [12] (fun s12 wr => ∃ q : Nat, s12 = I q ∧ q ≤ n ∧ St w wr hb L ∧ StepsAt wr (.slice ao n cap) P) (fun s12 _ => n - (intOf s12).toNat)
  case atStart => exact ⟨0, rfl, by omega, H.out, HPS5.out⟩
  case round =>
    obtain ⟨q, rfl, hq, hst, hps⟩ := hrel
    clear H HPS5
    have H := Lib.hid hst
    have HPS := Lib.hid hps
    clear hst hps
    by_cases hlt : q < n
    · obtain ⟨b, off, e⟩ := HSL.out (by omega)
      subst e
      have hlt' : q < P.length := by rw [HN.out]; exact hlt
      have hsp := HPS.out.at q hlt'
      obtain ⟨x, hx⟩ : ∃ x, P[q]'hlt' = x := ⟨_, rfl⟩
      have hxs : P[q]? = some x := by rw [List.getElem?_eq_getElem hlt', hx]
      rw [hx] at hsp
      have c0 := hsp.c0
      have c1 := hsp.c1
      have hlb := cell_lt c0
      have hb0 : (0 : Int) ≤ (q : Int) := by omega
      have hb1 : (q : Int) < (n : Int) := by omega
      have HXS := Lib.hid hxs
      have HSP := Lib.hid hsp
      clear hx hxs hsp
      by_cases hq0 : q = 0
      · subst hq0
        obtain ⟨f1, f2, f3⟩ := path_first H.out.wf (target := target) (related := related) (c := c) (by rw [HP.out]; exact HXS.out)
        have d0 : wr.cell? ⟨b, off, none⟩ = some (I target) := by have := HSP.out.c0; rw [f1] at this; simpa using this
        have d1 : wr.cell? ⟨b, off + 1, none⟩ = some (I target) := by have := HSP.out.c1; rw [f2] at this; simpa using this
        have d4 : wr.cell? ⟨b, off + 4, none⟩ = some (.bool false) := by have := HSP.out.c4; rw [f3] at this; simpa using this
        clear c0 c1 f1 f2 f3 hlt'
        go_wp2
        go_quiet (fail)
        go_wp2
        have H0 := Lib.hid (H.out.next (below_drewN (Below.refl wr.heap.size wr) nq))
        have HPS0 := Lib.hid (HPS.out.below (below_drewN (Below.refl wr.heap.size wr) nq))
        clear H HPS HSP hlb d0 d1 d4
        have hlt' : 0 < P.length := by rw [HN.out]; exact hlt
        go_loopw [13] (fun s13 wi => ∃ k : Nat, s13 = I k ∧ k ≤ 0 ∧ St w wi hb L ∧ StepsAt wi (.slice (some ⟨b, off, none⟩) n cap) P) (fun s13 _ => 0 - (intOf s13).toNat)
        case atStart => exact ⟨0, rfl, by omega, H0.out, HPS0.out⟩
        case round =>
          obtain ⟨k, rfl, hk, hst, hps⟩ := hrel
          clear H0 HPS0
          have H := Lib.hid hst
          have HPS := Lib.hid hps
          clear hst hps
          have hsp := HPS.out.at 0 hlt'
          have hx : P[0]'hlt' = x := by
            have := HXS.out
            rw [List.getElem?_eq_getElem hlt'] at this
            exact Option.some.inj this
          rw [hx] at hsp
          have c0 := hsp.c0
          have c1 := hsp.c1
          simp only [Nat.zero_mul, Nat.add_zero] at c0 c1
          have hlb := cell_lt c0
          clear hsp hx
          by_cases hkq : k < 0
          · exact absurd hkq (by omega)
          · have e : k = 0 := by omega
            subst e
            have htg := path_target H.out.wf (target := target) (related := related) (c := c) (i := 0) (a := x) (by rw [HP.out]; exact HXS.out)
            have hcase : (x.target != 0) = false ∨ ((x.target != 0) = true ∧ (x.target != x.node) = false) := by
              by_cases e : x.target = 0
              · exact Or.inl (by simp [e])
              · exact Or.inr ⟨by simpa using e, by simpa using htg.resolve_left e⟩
            clear htg hlt'
            cases c
            · have hin := path_root H.out.wf (target := target) (related := related) (i := 0) (a := x) (by rw [HP.out]; exact HXS.out)
              rw [HRT.out] at hin
              have HIN := Lib.hid (decide_eq_true hin)
              clear hin
              rcases hcase with k1 | ⟨k1, k2⟩
              all_goals
                go_wp2_with fail
                (with_reducible refine (holds_calls H.out.fo H.out.wf rt x.node).mono ?_)
                rw [HIN.out]
                rintro e w6 ⟨rfl, hb6⟩
                have e0 := cell_go hb6 c0
                have e1 := cell_go hb6 c1
                have le := cell_lt e0
                have HB6 := Lib.hid hb6
                clear hb6 c0 c1 hlb
                go_wp2
                go_quiet (fail)
                go_wp2
                go_roundw
                case rel => exact ⟨1, by go_num, by omega, H.out.next (below_drewN HB6.out _), HPS.out.below (below_drewN HB6.out _)⟩
                case measure => simp [intOf]; omega
            · rcases hcase with k1 | ⟨k1, k2⟩
              all_goals
                go_wp2
                go_quiet (fail)
                go_wp2
                go_roundw
                case rel => exact ⟨1, by go_num, by omega, H.out.next (below_drewN (Below.refl _ _) _), HPS.out.below (below_drewN (Below.refl _ _) _)⟩
                case measure => simp [intOf]; omega
      · obtain ⟨p, hp⟩ : ∃ p, q = p + 1 := ⟨q - 1, by omega⟩
        have hpl' : p < P.length := by omega
        have hsy := HPS.out.at p hpl'
        obtain ⟨y, hy⟩ : ∃ y, P[p]'hpl' = y := ⟨_, rfl⟩
        have hys : P[p]? = some y := by rw [List.getElem?_eq_getElem hpl', hy]
        rw [hy] at hsy
        have d0 := hsy.c0
        have hpe := path_next H.out.wf (target := target) (related := related) (c := c) (i := p) (a := y) (b := x) (by rw [HP.out]; exact hys) (by rw [HP.out, ← hp]; exact HXS.out)
        have hsub : IntKind.i64.wrap ((q : Int) - 1) = (p : Int) := by rw [IntWalk.i64_in _ (by omega)]; omega
        have hq1 : decide ((q : Int) > 0) = true := decide_eq_true (by omega)
        have hqn : 0 < q := by omega
        have hq2 : ((q : Int) == 0) = false := by simp; omega
        have hp0 : (0 : Int) ≤ (p : Int) := by omega
        have hp1 : (p : Int) < (n : Int) := by omega
        have HPE := Lib.hid hpe
        clear hsy hy hys hpe hp hpl' hlt'
        go_wp2_with fail
        have hS0 : (fun w2 : World => w2.cell? ⟨b, off + q * 5, none⟩ = some (I x.node) ∧ w2.cell? ⟨b, off + p * 5, none⟩ = some (I y.node) ∧ Below wr.heap.size wr w2) wr.drew := ⟨c0, d0, (Below.refl _ _).drew⟩
        refine region_held (S := (fun w2 : World => w2.cell? ⟨b, off + q * 5, none⟩ = some (I x.node) ∧ w2.cell? ⟨b, off + p * 5, none⟩ = some (I y.node) ∧ Below wr.heap.size wr w2)) (by kernel_rfl) 20 #[false, false, false, false, false, false, false, false, false, false, false, false, false, false, false, false, false, false, false, false] (by kernel_rfl) (by kernel_rfl) ?_
        refine held_take' (i := 0) (I q) rfl (by kernel_rfl) (by kernel_rfl) (by kernel_rfl) (fun _ _ _ h => h) (by rfl) hS0 (l' := #[true, false, false, false, false, false, false, false, false, false, false, false, false, false, false, false, false, false, false, false]) (by kernel_rfl) rfl ?_ ?_
        · intro w' hSw
          obtain ⟨s0, s1, s2⟩ := hSw
          go_simp
        try simp only [Act.put, List.setIfInBounds_toArray, List.set_cons_zero, List.set_cons_succ]
        refine held_take' (i := 1) (.bool true) rfl (by kernel_rfl) (by kernel_rfl) (by kernel_rfl) (fun _ _ _ h => h) (by rfl) hS0 (l' := #[true, true, false, false, false, false, false, false, false, false, false, false, false, false, false, false, false, false, false, false]) (by kernel_rfl) rfl ?_ ?_
        · intro w' hSw
          obtain ⟨s0, s1, s2⟩ := hSw
          go_simp
        try simp only [Act.put, List.setIfInBounds_toArray, List.set_cons_zero, List.set_cons_succ]
        refine held_take' (i := 2) (.bool true) rfl (by kernel_rfl) (by kernel_rfl) (by kernel_rfl) (fun _ _ _ h => h) (by rfl) hS0 (l' := #[true, true, true, false, false, false, false, false, false, false, false, false, false, false, false, false, false, false, false, false]) (by kernel_rfl) rfl ?_ ?_
        · intro w' hSw
          obtain ⟨s0, s1, s2⟩ := hSw
          go_simp
        try simp only [Act.put, List.setIfInBounds_toArray, List.set_cons_zero, List.set_cons_succ]
        refine held_take' (i := 3) (.slice (some ⟨b, off, none⟩) n cap) rfl (by kernel_rfl) (by kernel_rfl) (by kernel_rfl) (fun _ _ _ h => h) (by rfl) hS0 (l' := #[true, true, true, true, false, false, false, false, false, false, false, false, false, false, false, false, false, false, false, false]) (by kernel_rfl) rfl ?_ ?_
        · intro w' hSw
          obtain ⟨s0, s1, s2⟩ := hSw
          go_simp
        try simp only [Act.put, List.setIfInBounds_toArray, List.set_cons_zero, List.set_cons_succ]
        refine held_take' (i := 4) (I q) rfl (by kernel_rfl) (by kernel_rfl) (by kernel_rfl) (fun _ _ _ h => h) (by rfl) hS0 (l' := #[true, true, true, true, true, false, false, false, false, false, false, false, false, false, false, false, false, false, false, false]) (by kernel_rfl) rfl ?_ ?_
        · intro w' hSw
          obtain ⟨s0, s1, s2⟩ := hSw
          go_simp
        try simp only [Act.put, List.setIfInBounds_toArray, List.set_cons_zero, List.set_cons_succ]
        refine held_take' (i := 5) (.pointer (some ⟨b, off + q * 5, none⟩)) rfl (by kernel_rfl) (by kernel_rfl) (by kernel_rfl) (fun _ _ _ h => h) (by rfl) hS0 (l' := #[true, true, true, true, true, true, false, false, false, false, false, false, false, false, false, false, false, false, false, false]) (by kernel_rfl) rfl ?_ ?_
        · intro w' hSw
          obtain ⟨s0, s1, s2⟩ := hSw
          go_simp
        try simp only [Act.put, List.setIfInBounds_toArray, List.set_cons_zero, List.set_cons_succ]
        refine held_take' (i := 6) (.pointer (some ⟨b, off + q * 5, none⟩)) rfl (by kernel_rfl) (by kernel_rfl) (by kernel_rfl) (fun _ _ _ h => h) (by rfl) hS0 (l' := #[true, true, true, true, true, true, true, false, false, false, false, false, false, false, false, false, false, false, false, false]) (by kernel_rfl) rfl ?_ ?_
        · intro w' hSw
          obtain ⟨s0, s1, s2⟩ := hSw
          go_simp
        try simp only [Act.put, List.setIfInBounds_toArray, List.set_cons_zero, List.set_cons_succ]
        refine held_take' (i := 7) (I x.node) rfl (by kernel_rfl) (by kernel_rfl) (by kernel_rfl) (fun _ _ _ h => h) (by rfl) hS0 (l' := #[true, true, true, true, true, true, true, true, false, false, false, false, false, false, false, false, false, false, false, false]) (by kernel_rfl) rfl ?_ ?_
        · intro w' hSw
          obtain ⟨s0, s1, s2⟩ := hSw
          go_simp
        try simp only [Act.put, List.setIfInBounds_toArray, List.set_cons_zero, List.set_cons_succ]
        refine held_take' (i := 8) (.pointer (some ⟨hb, 0, none⟩)) rfl (by kernel_rfl) (by kernel_rfl) (by kernel_rfl) (fun _ _ _ h => h) (by rfl) hS0 (l' := #[true, true, true, true, true, true, true, true, true, false, false, false, false, false, false, false, false, false, false, false]) (by kernel_rfl) rfl ?_ ?_
        · intro w' hSw
          obtain ⟨s0, s1, s2⟩ := hSw
          go_simp
        try simp only [Act.put, List.setIfInBounds_toArray, List.set_cons_zero, List.set_cons_succ]
        refine held_take' (i := 9) (.slice (some ⟨b, off, none⟩) n cap) rfl (by kernel_rfl) (by kernel_rfl) (by kernel_rfl) (fun _ _ _ h => h) (by rfl) hS0 (l' := #[true, true, true, true, true, true, true, true, true, true, false, false, false, false, false, false, false, false, false, false]) (by kernel_rfl) rfl ?_ ?_
        · intro w' hSw
          obtain ⟨s0, s1, s2⟩ := hSw
          go_simp
        try simp only [Act.put, List.setIfInBounds_toArray, List.set_cons_zero, List.set_cons_succ]
        refine held_take' (i := 10) (I q) rfl (by kernel_rfl) (by kernel_rfl) (by kernel_rfl) (fun _ _ _ h => h) (by rfl) hS0 (l' := #[true, true, true, true, true, true, true, true, true, true, true, false, false, false, false, false, false, false, false, false]) (by kernel_rfl) rfl ?_ ?_
        · intro w' hSw
          obtain ⟨s0, s1, s2⟩ := hSw
          go_simp
        try simp only [Act.put, List.setIfInBounds_toArray, List.set_cons_zero, List.set_cons_succ]
        refine held_take' (i := 11) (I p) rfl (by kernel_rfl) (by kernel_rfl) (by kernel_rfl) (fun _ _ _ h => h) (by rfl) hS0 (l' := #[true, true, true, true, true, true, true, true, true, true, true, true, false, false, false, false, false, false, false, false]) (by kernel_rfl) rfl ?_ ?_
        · intro w' hSw
          obtain ⟨s0, s1, s2⟩ := hSw
          go_simp
        try simp only [Act.put, List.setIfInBounds_toArray, List.set_cons_zero, List.set_cons_succ]
        refine held_take' (i := 12) (.pointer (some ⟨b, off + p * 5, none⟩)) rfl (by kernel_rfl) (by kernel_rfl) (by kernel_rfl) (fun _ _ _ h => h) (by rfl) hS0 (l' := #[true, true, true, true, true, true, true, true, true, true, true, true, true, false, false, false, false, false, false, false]) (by kernel_rfl) rfl ?_ ?_
        · intro w' hSw
          obtain ⟨s0, s1, s2⟩ := hSw
          go_simp
        try simp only [Act.put, List.setIfInBounds_toArray, List.set_cons_zero, List.set_cons_succ]
        refine held_take' (i := 13) (.pointer (some ⟨b, off + p * 5, none⟩)) rfl (by kernel_rfl) (by kernel_rfl) (by kernel_rfl) (fun _ _ _ h => h) (by rfl) hS0 (l' := #[true, true, true, true, true, true, true, true, true, true, true, true, true, true, false, false, false, false, false, false]) (by kernel_rfl) rfl ?_ ?_
        · intro w' hSw
          obtain ⟨s0, s1, s2⟩ := hSw
          go_simp
        try simp only [Act.put, List.setIfInBounds_toArray, List.set_cons_zero, List.set_cons_succ]
        refine held_take' (i := 14) (I y.node) rfl (by kernel_rfl) (by kernel_rfl) (by kernel_rfl) (fun _ _ _ h => h) (by rfl) hS0 (l' := #[true, true, true, true, true, true, true, true, true, true, true, true, true, true, true, false, false, false, false, false]) (by kernel_rfl) rfl ?_ ?_
        · intro w' hSw
          obtain ⟨s0, s1, s2⟩ := hSw
          go_simp
        try simp only [Act.put, List.setIfInBounds_toArray, List.set_cons_zero, List.set_cons_succ]
        refine held_take' (i := 15) (I target) rfl (by kernel_rfl) (by kernel_rfl) (by kernel_rfl) (fun _ _ _ h => h) (by rfl) hS0 (l' := #[true, true, true, true, true, true, true, true, true, true, true, true, true, true, true, true, false, false, false, false]) (by kernel_rfl) rfl ?_ ?_
        · intro w' hSw
          obtain ⟨s0, s1, s2⟩ := hSw
          go_simp
        try simp only [Act.put, List.setIfInBounds_toArray, List.set_cons_zero, List.set_cons_succ]
        refine held_take' (i := 16) (.bool c) rfl (by kernel_rfl) (by kernel_rfl) (by kernel_rfl) (fun _ _ _ h => h) (by rfl) hS0 (l' := #[true, true, true, true, true, true, true, true, true, true, true, true, true, true, true, true, true, false, false, false]) (by kernel_rfl) rfl ?_ ?_
        · intro w' hSw
          obtain ⟨s0, s1, s2⟩ := hSw
          go_simp
        try simp only [Act.put, List.setIfInBounds_toArray, List.set_cons_zero, List.set_cons_succ]
        refine held_one' (i := 17) rfl (by kernel_rfl) (by rfl) (l' := #[true, true, true, true, true, true, true, true, true, true, true, true, true, true, true, true, true, true, false, false]) (by kernel_rfl) ?_
        intro K hK
        go_simp
        (with_reducible refine (parent_calls (H.out.fo.below hS0.2.2) H.out.wf y.node target c).mono ?_)
        rw [HPE.out]
        rintro e w5 ⟨rfl, hb5⟩
        have e50 := cell_go hb5 hS0.1
        have e51 := cell_go hb5 hS0.2.1
        have B5 := Below.step hS0.2.2 hb5
        clear hb5
        refine hK _ _ ⟨e50, e51, B5⟩ ?_
        clear hK K
        have hS1 : (fun w2 : World => w2.cell? ⟨b, off + q * 5, none⟩ = some (I x.node) ∧ w2.cell? ⟨b, off + p * 5, none⟩ = some (I y.node) ∧ Below wr.heap.size wr w2) _ := ⟨e50, e51, B5⟩
        try simp only [Act.put, List.setIfInBounds_toArray, List.set_cons_zero, List.set_cons_succ]
        refine held_take' (i := 18) (.bool false) rfl (by kernel_rfl) (by kernel_rfl) (by kernel_rfl) (fun _ _ _ h => h) (by rfl) hS1 (l' := #[true, true, true, true, true, true, true, true, true, true, true, true, true, true, true, true, true, true, true, false]) (by kernel_rfl) rfl ?_ ?_
        · intro w' hSw
          obtain ⟨s0, s1, s2⟩ := hSw
          go_simp
        try simp only [Act.put, List.setIfInBounds_toArray, List.set_cons_zero, List.set_cons_succ]
        refine held_take' (i := 19) (.bool false) rfl (by kernel_rfl) (by kernel_rfl) (by kernel_rfl) (fun _ _ _ h => h) (by rfl) hS1 (l' := #[true, true, true, true, true, true, true, true, true, true, true, true, true, true, true, true, true, true, true, true]) (by kernel_rfl) rfl ?_ ?_
        · intro w' hSw
          obtain ⟨s0, s1, s2⟩ := hSw
          go_simp
        try simp only [Act.put, List.setIfInBounds_toArray, List.set_cons_zero, List.set_cons_succ]
        refine wpAnyH_done (by kernel_rfl) ?_ _
        go_wp2
        have H0 := Lib.hid (H.out.next B5)
        have HPS0 := Lib.hid (HPS.out.below B5)
        clear H HPS HSP hlb c0 c1 d0
        have hlt' : q < P.length := by rw [HN.out]; exact hlt
        go_loopw [13] (fun s13 wi => ∃ k : Nat, s13 = I k ∧ k ≤ q ∧ St w wi hb L ∧ StepsAt wi (.slice (some ⟨b, off, none⟩) n cap) P) (fun s13 _ => q - (intOf s13).toNat)
        case atStart => exact ⟨0, rfl, by omega, H0.out, HPS0.out⟩
        case round =>
          obtain ⟨k, rfl, hk, hst, hps⟩ := hrel
          clear H0 HPS0
          have H := Lib.hid hst
          have HPS := Lib.hid hps
          clear hst hps
          have hsp := HPS.out.at q hlt'
          have hx : P[q]'hlt' = x := by
            have := HXS.out
            rw [List.getElem?_eq_getElem hlt'] at this
            exact Option.some.inj this
          rw [hx] at hsp
          have c0 := hsp.c0
          have c1 := hsp.c1
          have hlb := cell_lt c0
          clear hsp hx
          by_cases hkq : k < q
          · have hkl : k < P.length := by omega
            have hsz := HPS.out.at k hkl
            obtain ⟨z, hz⟩ : ∃ z, P[k]'hkl = z := ⟨_, rfl⟩
            have hzs : P[k]? = some z := by rw [List.getElem?_eq_getElem hkl, hz]
            rw [hz] at hsz
            have d0 := hsz.c0
            have hne : (z.node == x.node) = false := beq_eq_false_iff_ne.2 (path_apart H.out.wf (target := target) (related := related) (c := c) (i := k) (k := q) (by rw [HP.out]; exact hzs) (by rw [HP.out]; exact HXS.out) (by omega))
            have hk0 : (0 : Int) ≤ (k : Int) := by omega
            have hk1 : (k : Int) < (n : Int) := by omega
            clear hsz hz hzs hkl c1 hlt'
            go_wp2
            go_quiet (fail)
            go_wp2
            go_roundw
            case rel => exact ⟨k + 1, by go_num, by omega, H.out.next (below_drewN (Below.refl _ _) _), HPS.out.below (below_drewN (Below.refl _ _) _)⟩
            case measure => simp [intOf]; omega
          · have e : k = q := by omega
            subst e
            have htg := path_target H.out.wf (target := target) (related := related) (c := c) (i := k) (a := x) (by rw [HP.out]; exact HXS.out)
            have hcase : (x.target != 0) = false ∨ ((x.target != 0) = true ∧ (x.target != x.node) = false) := by
              by_cases e : x.target = 0
              · exact Or.inl (by simp [e])
              · exact Or.inr ⟨by simpa using e, by simpa using htg.resolve_left e⟩
            clear htg hlt'
            cases c
            · have hin := path_root H.out.wf (target := target) (related := related) (i := k) (a := x) (by rw [HP.out]; exact HXS.out)
              rw [HRT.out] at hin
              have HIN := Lib.hid (decide_eq_true hin)
              clear hin
              rcases hcase with k1 | ⟨k1, k2⟩
              all_goals
                go_wp2_with fail
                (with_reducible refine (holds_calls H.out.fo H.out.wf rt x.node).mono ?_)
                rw [HIN.out]
                rintro e w6 ⟨rfl, hb6⟩
                have e0 := cell_go hb6 c0
                have e1 := cell_go hb6 c1
                have le := cell_lt e0
                have HB6 := Lib.hid hb6
                clear hb6 c0 c1 hlb
                go_wp2
                go_quiet (fail)
                go_wp2
                go_roundw
                case rel => exact ⟨k + 1, by go_num, by omega, H.out.next (below_drewN HB6.out _), HPS.out.below (below_drewN HB6.out _)⟩
                case measure => simp [intOf]; omega
            · rcases hcase with k1 | ⟨k1, k2⟩
              all_goals
                go_wp2
                go_quiet (fail)
                go_wp2
                go_roundw
                case rel => exact ⟨k + 1, by go_num, by omega, H.out.next (below_drewN (Below.refl _ _) _), HPS.out.below (below_drewN (Below.refl _ _) _)⟩
                case measure => simp [intOf]; omega
    · have e : q = n := by omega
      subst e
      go_wp2
      go_ret
      exact ⟨rfl, H.out.bel⟩
end Go.Proofs.Ytidekbamlnpglaa.K14

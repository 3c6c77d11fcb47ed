/-
  The walk of the law SeeNested.
-/
import Derived.Test.YtidekbamlnpglaaLaw15a
import Derived.Test.YtidekbamlnpglaaPw
import Derived.Test.YtidekbamlnpglaaHv
namespace Go.Proofs.Ytidekbamlnpglaa.K15
open Go.RowKit Tc

theorem slice_own2 (v : Value) : sliceBlock v = v.ownBlock := by
  cases v <;> first | rfl | (rename_i a _ _; cases a <;> rfl)

set_option maxRecDepth 100000 in
set_option maxHeartbeats 3200000 in
theorem SeeNested_walk {w : World} {v : Value} {acts : List Tc.Act} (h : ActsAt w v acts) (target : Int) (c : Bool) :
    Calls Try.prog 18 #[v, I target, .bool c] w fun e w' => e = .returned (.bool true) ∧ Below w.heap.size w w' := by
  have HA := Lib.hid h
  clear h
  go_enter Try.func18, Try.ntmps18
  go_wp2_with fail
  refine (awake_calls w).mono ?_
  rintro e w1 ⟨rfl, hb1⟩
  have HB1 := Lib.hid hb1
  clear hb1
  go_wp2_with fail
  refine (great_calls (HA.out.below HB1.out)).mono ?_
  obtain ⟨x, hx⟩ : ∃ x, fewB acts = x := ⟨_, rfl⟩
  rw [hx]
  rintro e w2 ⟨rfl, hb2⟩
  have HFW := Lib.hid hx
  have HB2 := Lib.hid hb2
  clear hb2 hx
  cases x
  · go_wp2
    go_ret
    exact ⟨rfl, Below.step HB1.out HB2.out⟩
  go_wp2_with fail
  refine (made_calls ((HA.out.below HB1.out).below HB2.out) HFW.out).mono ?_
  obtain ⟨L, hL⟩ : ∃ L, mades acts = L := ⟨_, rfl⟩
  have hW := WF.mades acts
  rw [hL] at hW ⊢
  have HL := Lib.hid hL
  rintro e w3 ⟨hb, rfl, hfo, hb3⟩
  have H := Lib.hid (St.start HB1.out HB2.out hfo hb3 hW)
  clear hL hW hfo hb3 HA HB1 HB2 HFW
  go_wp2_with fail
  (with_reducible refine (pmake_calls H.out.fo H.out.wf target 0 c).mono ?_)
  obtain ⟨P, hP⟩ : ∃ P, pathL L target 0 c = P := ⟨_, rfl⟩
  have hpl : P.length ≤ 200 := by rw [← hP]; exact pathL_le H.out.wf target 0 c
  rw [hP]
  have HP := Lib.hid hP
  clear hP
  rintro e w4 ⟨pv, rfl, hown, hb4⟩
  have hst := hown.steps
  have hlt : ∀ k, sliceBlock pv = some k → k < w4.heap.size := fun k hk => (hown.lt k (by rw [← slice_own2]; exact hk)).2
  obtain ⟨ao, cap, rfl, hc1, hc2, hsl⟩ := hst.open
  obtain ⟨n, hn⟩ : ∃ n, P.length = n := ⟨_, rfl⟩
  have HN := Lib.hid hn
  rw [hn] at hst hc1 hsl hpl hlt ⊢
  unfold maxLen at hc2
  have HPS := Lib.hid hst
  have HSL := Lib.hid hsl
  have HLT := Lib.hid hlt
  have H4 := Lib.hid (H.out.next hb4)
  clear H hb4
  have H := H4
  clear H4
  clear hn hst hsl hown hlt
  go_wp2
  go_loopw [9] (fun s11 wr => ∃ q : Nat, s11 = I q ∧ q ≤ n ∧ St w wr hb L ∧ StepsAt wr (.slice ao n cap) P ∧ w4.heap.size ≤ wr.heap.size) (fun s _ => n - (intOf s).toNat)
  case atStart => exact ⟨0, rfl, by omega, H.out, HPS.out, Nat.le_refl _⟩
  case round =>
    obtain ⟨q, rfl, hq, hst, hps, hz⟩ := hrel
    clear H HPS
    have H := Lib.hid hst
    have HPS := Lib.hid hps
    clear hst hps
    by_cases hlt : q < n
    · obtain ⟨b, off, e⟩ := HSL.out (by omega)
      subst e
      have hlt' : q < P.length := by rw [HN.out]; exact hlt
      have hsp := HPS.out.at q hlt'
      obtain ⟨x, hx⟩ : ∃ x, P[q]'hlt' = x := ⟨_, rfl⟩
      have hxs : P[q]? = some x := by rw [List.getElem?_eq_getElem hlt', hx]
      rw [hx] at hsp
      have c0 := hsp.c0
      obtain ⟨l, hl⟩ : ∃ l, fromL P x.node = l := ⟨_, rfl⟩
      have hb0 : (0 : Int) ≤ (q : Int) := by omega
      have hb1 : (q : Int) < (n : Int) := by omega
      have hlb := cell_lt c0
      have HX := Lib.hid hxs
      have HL := Lib.hid hl
      clear hx hxs hsp hl hlt'
      go_wp2_with fail
      (refine (from_calls HPS.out (by rw [HN.out]; omega) (fun k hk => Nat.lt_of_lt_of_le (HLT.out k hk) hz) x.node).mono ?_)
      rw [HL.out]
      rintro e w5 ⟨lv, rfl, hown5, hb5⟩
      have hint := hown5.ints
      obtain ⟨ao2, cap2, rfl, hd1, hd2, hsl2⟩ := hint.open
      obtain ⟨m, hm⟩ : ∃ m, l.length = m := ⟨_, rfl⟩
      have HMN := Lib.hid hm
      rw [hm] at hint hd1 hsl2 ⊢
      unfold maxLen at hd2
      have HI := Lib.hid hint
      have HSL2 := Lib.hid hsl2
      have hps5 := HPS.out.below hb5
      have hz5 := Nat.le_trans hz hb5.size
      have HP5 := Lib.hid hps5
      clear HPS hps5 c0 hlb hz
      have HPS := HP5
      clear HP5
      have H5 := Lib.hid (H.out.next hb5)
      clear H hb5
      have H := H5
      clear H5
      clear hint hm hsl2 hown5
      go_wp2
      go_loopw [11] (fun s13 wr2 => ∃ k : Nat, s13 = I k ∧ k ≤ n ∧ St w wr2 hb L ∧ StepsAt wr2 (.slice (some ⟨b, off, none⟩) n cap) P ∧ IntsAt wr2 (.slice ao2 m cap2) l ∧ w4.heap.size ≤ wr2.heap.size) (fun s _ => n - (intOf s).toNat)
      case atStart => exact ⟨0, rfl, by omega, H.out, HPS.out, HI.out, hz5⟩
      case round =>
        obtain ⟨k, rfl, hk, hst, hps, hint, hz⟩ := hrel
        clear H HPS HI hz5
        have H := Lib.hid hst
        have HPS := Lib.hid hps
        have HI := Lib.hid hint
        clear hst hps hint
        by_cases hlk : k < n
        · have hlt' : q < P.length := by rw [HN.out]; exact hlt
          have hsp := HPS.out.at q hlt'
          have hx : P[q]'hlt' = x := by have := HX.out; rw [List.getElem?_eq_getElem hlt'] at this; exact Option.some.inj this
          rw [hx] at hsp
          have c0 := hsp.c0
          have hlb := cell_lt c0
          have hk0 : (0 : Int) ≤ (k : Int) := by omega
          have hk1 : (k : Int) < (n : Int) := by omega
          clear hsp hx
          have hlk' : k < P.length := by rw [HN.out]; exact hlk
          have hsp2 := HPS.out.at k hlk'
          obtain ⟨y, hy⟩ : ∃ y, P[k]'hlk' = y := ⟨_, rfl⟩
          rw [hy] at hsp2
          have d0 := hsp2.c0
          have hlb2 := cell_lt d0
          have hys : P[k]? = some y := by rw [List.getElem?_eq_getElem hlk', hy]
          have hse := path_seen H.out.wf (target := target) (related := 0) (c := c) (a := x) (b := y) (i := q) (k := k) (by rw [HP.out]; exact HX.out) (by rw [HP.out]; exact hys)
          rw [HP.out, HL.out] at hse
          obtain ⟨hd, hhd⟩ : ∃ hd, hidden L y.node x.node = hd := ⟨_, rfl⟩
          rw [hhd] at hse
          have HHD := Lib.hid hhd
          clear hsp2 hy hys hhd hlk' hlt'
          cases hd
          · have HHS := Lib.hid (show decide (y.node ∈ l) = true from decide_eq_true (hse.2 rfl))
            clear hse
            go_wp2_with fail
            have hS0 : (fun w2 : World => w2.cell? ⟨b, off + q * 5, none⟩ = some (I x.node) ∧ w2.cell? ⟨b, off + k * 5, none⟩ = some (I y.node) ∧ Below wr.heap.size wr w2) wr.drew := ⟨c0, d0, (Below.refl _ _).drew⟩
            refine region_held (S := (fun w2 : World => w2.cell? ⟨b, off + q * 5, none⟩ = some (I x.node) ∧ w2.cell? ⟨b, off + k * 5, none⟩ = some (I y.node) ∧ Below wr.heap.size wr w2)) (by kernel_rfl) 20 #[false, false, false, false, false, false, false, false, false, false, false, false, false, false, false, false, false, false, false, false] (by kernel_rfl) (by kernel_rfl) ?_
            refine held_take' (i := 0) (.pointer (some ⟨hb, 0, none⟩)) rfl (by kernel_rfl) (by kernel_rfl) (by kernel_rfl) (fun _ _ _ h => h) (by rfl) hS0 (l' := #[true, false, false, false, false, false, false, false, false, false, false, false, false, false, false, false, false, false, false, false]) (by kernel_rfl) rfl ?_ ?_
            · intro w' hSw
              obtain ⟨s0, s1, s2⟩ := hSw
              go_simp
            try simp only [Act.put, List.setIfInBounds_toArray, List.set_cons_zero, List.set_cons_succ]
            refine held_take' (i := 1) (.slice (some ⟨b, off, none⟩) n cap) rfl (by kernel_rfl) (by kernel_rfl) (by kernel_rfl) (fun _ _ _ h => h) (by rfl) hS0 (l' := #[true, true, false, false, false, false, false, false, false, false, false, false, false, false, false, false, false, false, false, false]) (by kernel_rfl) rfl ?_ ?_
            · intro w' hSw
              obtain ⟨s0, s1, s2⟩ := hSw
              go_simp
            try simp only [Act.put, List.setIfInBounds_toArray, List.set_cons_zero, List.set_cons_succ]
            refine held_take' (i := 2) (I k) rfl (by kernel_rfl) (by kernel_rfl) (by kernel_rfl) (fun _ _ _ h => h) (by rfl) hS0 (l' := #[true, true, true, false, false, false, false, false, false, false, false, false, false, false, false, false, false, false, false, false]) (by kernel_rfl) rfl ?_ ?_
            · intro w' hSw
              obtain ⟨s0, s1, s2⟩ := hSw
              go_simp
            try simp only [Act.put, List.setIfInBounds_toArray, List.set_cons_zero, List.set_cons_succ]
            refine held_take' (i := 3) (.pointer (some ⟨b, off + k * 5, none⟩)) rfl (by kernel_rfl) (by kernel_rfl) (by kernel_rfl) (fun _ _ _ h => h) (by rfl) hS0 (l' := #[true, true, true, true, false, false, false, false, false, false, false, false, false, false, false, false, false, false, false, false]) (by kernel_rfl) rfl ?_ ?_
            · intro w' hSw
              obtain ⟨s0, s1, s2⟩ := hSw
              go_simp
            try simp only [Act.put, List.setIfInBounds_toArray, List.set_cons_zero, List.set_cons_succ]
            refine held_take' (i := 4) (.pointer (some ⟨b, off + k * 5, none⟩)) rfl (by kernel_rfl) (by kernel_rfl) (by kernel_rfl) (fun _ _ _ h => h) (by rfl) hS0 (l' := #[true, true, true, true, true, false, false, false, false, false, false, false, false, false, false, false, false, false, false, false]) (by kernel_rfl) rfl ?_ ?_
            · intro w' hSw
              obtain ⟨s0, s1, s2⟩ := hSw
              go_simp
            try simp only [Act.put, List.setIfInBounds_toArray, List.set_cons_zero, List.set_cons_succ]
            refine held_take' (i := 5) (I y.node) rfl (by kernel_rfl) (by kernel_rfl) (by kernel_rfl) (fun _ _ _ h => h) (by rfl) hS0 (l' := #[true, true, true, true, true, true, false, false, false, false, false, false, false, false, false, false, false, false, false, false]) (by kernel_rfl) rfl ?_ ?_
            · intro w' hSw
              obtain ⟨s0, s1, s2⟩ := hSw
              go_simp
            try simp only [Act.put, List.setIfInBounds_toArray, List.set_cons_zero, List.set_cons_succ]
            refine held_take' (i := 6) (.slice (some ⟨b, off, none⟩) n cap) rfl (by kernel_rfl) (by kernel_rfl) (by kernel_rfl) (fun _ _ _ h => h) (by rfl) hS0 (l' := #[true, true, true, true, true, true, true, false, false, false, false, false, false, false, false, false, false, false, false, false]) (by kernel_rfl) rfl ?_ ?_
            · intro w' hSw
              obtain ⟨s0, s1, s2⟩ := hSw
              go_simp
            try simp only [Act.put, List.setIfInBounds_toArray, List.set_cons_zero, List.set_cons_succ]
            refine held_take' (i := 7) (I q) rfl (by kernel_rfl) (by kernel_rfl) (by kernel_rfl) (fun _ _ _ h => h) (by rfl) hS0 (l' := #[true, true, true, true, true, true, true, true, false, false, false, false, false, false, false, false, false, false, false, false]) (by kernel_rfl) rfl ?_ ?_
            · intro w' hSw
              obtain ⟨s0, s1, s2⟩ := hSw
              go_simp
            try simp only [Act.put, List.setIfInBounds_toArray, List.set_cons_zero, List.set_cons_succ]
            refine held_take' (i := 8) (.pointer (some ⟨b, off + q * 5, none⟩)) rfl (by kernel_rfl) (by kernel_rfl) (by kernel_rfl) (fun _ _ _ h => h) (by rfl) hS0 (l' := #[true, true, true, true, true, true, true, true, true, false, false, false, false, false, false, false, false, false, false, false]) (by kernel_rfl) rfl ?_ ?_
            · intro w' hSw
              obtain ⟨s0, s1, s2⟩ := hSw
              go_simp
            try simp only [Act.put, List.setIfInBounds_toArray, List.set_cons_zero, List.set_cons_succ]
            refine held_take' (i := 9) (.pointer (some ⟨b, off + q * 5, none⟩)) rfl (by kernel_rfl) (by kernel_rfl) (by kernel_rfl) (fun _ _ _ h => h) (by rfl) hS0 (l' := #[true, true, true, true, true, true, true, true, true, true, false, false, false, false, false, false, false, false, false, false]) (by kernel_rfl) rfl ?_ ?_
            · intro w' hSw
              obtain ⟨s0, s1, s2⟩ := hSw
              go_simp
            try simp only [Act.put, List.setIfInBounds_toArray, List.set_cons_zero, List.set_cons_succ]
            refine held_take' (i := 10) (I x.node) rfl (by kernel_rfl) (by kernel_rfl) (by kernel_rfl) (fun _ _ _ h => h) (by rfl) hS0 (l' := #[true, true, true, true, true, true, true, true, true, true, true, false, false, false, false, false, false, false, false, false]) (by kernel_rfl) rfl ?_ ?_
            · intro w' hSw
              obtain ⟨s0, s1, s2⟩ := hSw
              go_simp
            try simp only [Act.put, List.setIfInBounds_toArray, List.set_cons_zero, List.set_cons_succ]
            refine held_take' (i := 12) (.slice ao2 m cap2) rfl (by kernel_rfl) (by kernel_rfl) (by kernel_rfl) (fun _ _ _ h => h) (by rfl) hS0 (l' := #[true, true, true, true, true, true, true, true, true, true, true, false, true, false, false, false, false, false, false, false]) (by kernel_rfl) rfl ?_ ?_
            · intro w' hSw
              obtain ⟨s0, s1, s2⟩ := hSw
              go_simp
            try simp only [Act.put, List.setIfInBounds_toArray, List.set_cons_zero, List.set_cons_succ]
            refine held_take' (i := 13) (.slice (some ⟨b, off, none⟩) n cap) rfl (by kernel_rfl) (by kernel_rfl) (by kernel_rfl) (fun _ _ _ h => h) (by rfl) hS0 (l' := #[true, true, true, true, true, true, true, true, true, true, true, false, true, true, false, false, false, false, false, false]) (by kernel_rfl) rfl ?_ ?_
            · intro w' hSw
              obtain ⟨s0, s1, s2⟩ := hSw
              go_simp
            try simp only [Act.put, List.setIfInBounds_toArray, List.set_cons_zero, List.set_cons_succ]
            refine held_take' (i := 14) (I k) rfl (by kernel_rfl) (by kernel_rfl) (by kernel_rfl) (fun _ _ _ h => h) (by rfl) hS0 (l' := #[true, true, true, true, true, true, true, true, true, true, true, false, true, true, true, false, false, false, false, false]) (by kernel_rfl) rfl ?_ ?_
            · intro w' hSw
              obtain ⟨s0, s1, s2⟩ := hSw
              go_simp
            try simp only [Act.put, List.setIfInBounds_toArray, List.set_cons_zero, List.set_cons_succ]
            refine held_take' (i := 15) (.pointer (some ⟨b, off + k * 5, none⟩)) rfl (by kernel_rfl) (by kernel_rfl) (by kernel_rfl) (fun _ _ _ h => h) (by rfl) hS0 (l' := #[true, true, true, true, true, true, true, true, true, true, true, false, true, true, true, true, false, false, false, false]) (by kernel_rfl) rfl ?_ ?_
            · intro w' hSw
              obtain ⟨s0, s1, s2⟩ := hSw
              go_simp
            try simp only [Act.put, List.setIfInBounds_toArray, List.set_cons_zero, List.set_cons_succ]
            refine held_take' (i := 16) (.pointer (some ⟨b, off + k * 5, none⟩)) rfl (by kernel_rfl) (by kernel_rfl) (by kernel_rfl) (fun _ _ _ h => h) (by rfl) hS0 (l' := #[true, true, true, true, true, true, true, true, true, true, true, false, true, true, true, true, true, false, false, false]) (by kernel_rfl) rfl ?_ ?_
            · intro w' hSw
              obtain ⟨s0, s1, s2⟩ := hSw
              go_simp
            try simp only [Act.put, List.setIfInBounds_toArray, List.set_cons_zero, List.set_cons_succ]
            refine held_take' (i := 17) (I y.node) rfl (by kernel_rfl) (by kernel_rfl) (by kernel_rfl) (fun _ _ _ h => h) (by rfl) hS0 (l' := #[true, true, true, true, true, true, true, true, true, true, true, false, true, true, true, true, true, true, false, false]) (by kernel_rfl) rfl ?_ ?_
            · intro w' hSw
              obtain ⟨s0, s1, s2⟩ := hSw
              go_simp
            try simp only [Act.put, List.setIfInBounds_toArray, List.set_cons_zero, List.set_cons_succ]
            refine held_one' (i := 11) rfl (by kernel_rfl) (by rfl) (l' := #[true, true, true, true, true, true, true, true, true, true, true, true, true, true, true, true, true, true, false, false]) (by kernel_rfl) ?_
            intro K hK
            go_simp
            (with_reducible refine (hidden_calls (H.out.fo.below hS0.2.2) H.out.wf y.node x.node).mono ?_)
            rw [HHD.out]
            rintro e w6 ⟨rfl, hb6⟩
            have e60 := cell_go hb6 hS0.1
            have e61 := cell_go hb6 hS0.2.1
            have B6 := Below.step hS0.2.2 hb6
            clear hb6
            refine hK _ _ ⟨e60, e61, B6⟩ ?_
            clear hK K
            have hS1 : (fun w2 : World => w2.cell? ⟨b, off + q * 5, none⟩ = some (I x.node) ∧ w2.cell? ⟨b, off + k * 5, none⟩ = some (I y.node) ∧ Below wr.heap.size wr w2) _ := ⟨e60, e61, B6⟩
            try simp only [Act.put, List.setIfInBounds_toArray, List.set_cons_zero, List.set_cons_succ]
            refine held_one' (i := 18) rfl (by kernel_rfl) (by rfl) (l' := #[true, true, true, true, true, true, true, true, true, true, true, true, true, true, true, true, true, true, true, false]) (by kernel_rfl) ?_
            intro K hK
            go_simp
            (with_reducible refine (has_calls (HI.out.below hS1.2.2) y.node).mono ?_)
            rw [HHS.out]
            rintro e w7 ⟨rfl, rfl⟩
            refine hK _ _ ⟨e60, e61, B6⟩ ?_
            clear hK K
            have hS2 : (fun w2 : World => w2.cell? ⟨b, off + q * 5, none⟩ = some (I x.node) ∧ w2.cell? ⟨b, off + k * 5, none⟩ = some (I y.node) ∧ Below wr.heap.size wr w2) _ := ⟨e60, e61, B6⟩
            try simp only [Act.put, List.setIfInBounds_toArray, List.set_cons_zero, List.set_cons_succ]
            refine held_take' (i := 19) (.bool false) rfl (by kernel_rfl) (by kernel_rfl) (by kernel_rfl) (fun _ _ _ h => h) (by rfl) hS2 (l' := #[true, true, true, true, true, true, true, true, true, true, true, true, true, true, true, true, true, true, true, true]) (by kernel_rfl) rfl ?_ ?_
            · intro w' hSw
              obtain ⟨s0, s1, s2⟩ := hSw
              go_simp
            try simp only [Act.put, List.setIfInBounds_toArray, List.set_cons_zero, List.set_cons_succ]
            refine wpAnyH_done (by kernel_rfl) ?_ _
            go_wp2
            go_roundw
            case rel => exact ⟨k + 1, by go_num, by omega, H.out.next B6, HPS.out.below B6, HI.out.below B6, Nat.le_trans hz B6.size⟩
            case measure => simp [intOf]; omega
          · have HHS := Lib.hid (show decide (y.node ∈ l) = false from decide_eq_false (fun hm => by have := hse.1 hm; cases this))
            clear hse
            go_wp2_with fail
            have hS0 : (fun w2 : World => w2.cell? ⟨b, off + q * 5, none⟩ = some (I x.node) ∧ w2.cell? ⟨b, off + k * 5, none⟩ = some (I y.node) ∧ Below wr.heap.size wr w2) wr.drew := ⟨c0, d0, (Below.refl _ _).drew⟩
            refine region_held (S := (fun w2 : World => w2.cell? ⟨b, off + q * 5, none⟩ = some (I x.node) ∧ w2.cell? ⟨b, off + k * 5, none⟩ = some (I y.node) ∧ Below wr.heap.size wr w2)) (by kernel_rfl) 20 #[false, false, false, false, false, false, false, false, false, false, false, false, false, false, false, false, false, false, false, false] (by kernel_rfl) (by kernel_rfl) ?_
            refine held_take' (i := 0) (.pointer (some ⟨hb, 0, none⟩)) rfl (by kernel_rfl) (by kernel_rfl) (by kernel_rfl) (fun _ _ _ h => h) (by rfl) hS0 (l' := #[true, false, false, false, false, false, false, false, false, false, false, false, false, false, false, false, false, false, false, false]) (by kernel_rfl) rfl ?_ ?_
            · intro w' hSw
              obtain ⟨s0, s1, s2⟩ := hSw
              go_simp
            try simp only [Act.put, List.setIfInBounds_toArray, List.set_cons_zero, List.set_cons_succ]
            refine held_take' (i := 1) (.slice (some ⟨b, off, none⟩) n cap) rfl (by kernel_rfl) (by kernel_rfl) (by kernel_rfl) (fun _ _ _ h => h) (by rfl) hS0 (l' := #[true, true, false, false, false, false, false, false, false, false, false, false, false, false, false, false, false, false, false, false]) (by kernel_rfl) rfl ?_ ?_
            · intro w' hSw
              obtain ⟨s0, s1, s2⟩ := hSw
              go_simp
            try simp only [Act.put, List.setIfInBounds_toArray, List.set_cons_zero, List.set_cons_succ]
            refine held_take' (i := 2) (I k) rfl (by kernel_rfl) (by kernel_rfl) (by kernel_rfl) (fun _ _ _ h => h) (by rfl) hS0 (l' := #[true, true, true, false, false, false, false, false, false, false, false, false, false, false, false, false, false, false, false, false]) (by kernel_rfl) rfl ?_ ?_
            · intro w' hSw
              obtain ⟨s0, s1, s2⟩ := hSw
              go_simp
            try simp only [Act.put, List.setIfInBounds_toArray, List.set_cons_zero, List.set_cons_succ]
            refine held_take' (i := 3) (.pointer (some ⟨b, off + k * 5, none⟩)) rfl (by kernel_rfl) (by kernel_rfl) (by kernel_rfl) (fun _ _ _ h => h) (by rfl) hS0 (l' := #[true, true, true, true, false, false, false, false, false, false, false, false, false, false, false, false, false, false, false, false]) (by kernel_rfl) rfl ?_ ?_
            · intro w' hSw
              obtain ⟨s0, s1, s2⟩ := hSw
              go_simp
            try simp only [Act.put, List.setIfInBounds_toArray, List.set_cons_zero, List.set_cons_succ]
            refine held_take' (i := 4) (.pointer (some ⟨b, off + k * 5, none⟩)) rfl (by kernel_rfl) (by kernel_rfl) (by kernel_rfl) (fun _ _ _ h => h) (by rfl) hS0 (l' := #[true, true, true, true, true, false, false, false, false, false, false, false, false, false, false, false, false, false, false, false]) (by kernel_rfl) rfl ?_ ?_
            · intro w' hSw
              obtain ⟨s0, s1, s2⟩ := hSw
              go_simp
            try simp only [Act.put, List.setIfInBounds_toArray, List.set_cons_zero, List.set_cons_succ]
            refine held_take' (i := 5) (I y.node) rfl (by kernel_rfl) (by kernel_rfl) (by kernel_rfl) (fun _ _ _ h => h) (by rfl) hS0 (l' := #[true, true, true, true, true, true, false, false, false, false, false, false, false, false, false, false, false, false, false, false]) (by kernel_rfl) rfl ?_ ?_
            · intro w' hSw
              obtain ⟨s0, s1, s2⟩ := hSw
              go_simp
            try simp only [Act.put, List.setIfInBounds_toArray, List.set_cons_zero, List.set_cons_succ]
            refine held_take' (i := 6) (.slice (some ⟨b, off, none⟩) n cap) rfl (by kernel_rfl) (by kernel_rfl) (by kernel_rfl) (fun _ _ _ h => h) (by rfl) hS0 (l' := #[true, true, true, true, true, true, true, false, false, false, false, false, false, false, false, false, false, false, false, false]) (by kernel_rfl) rfl ?_ ?_
            · intro w' hSw
              obtain ⟨s0, s1, s2⟩ := hSw
              go_simp
            try simp only [Act.put, List.setIfInBounds_toArray, List.set_cons_zero, List.set_cons_succ]
            refine held_take' (i := 7) (I q) rfl (by kernel_rfl) (by kernel_rfl) (by kernel_rfl) (fun _ _ _ h => h) (by rfl) hS0 (l' := #[true, true, true, true, true, true, true, true, false, false, false, false, false, false, false, false, false, false, false, false]) (by kernel_rfl) rfl ?_ ?_
            · intro w' hSw
              obtain ⟨s0, s1, s2⟩ := hSw
              go_simp
            try simp only [Act.put, List.setIfInBounds_toArray, List.set_cons_zero, List.set_cons_succ]
            refine held_take' (i := 8) (.pointer (some ⟨b, off + q * 5, none⟩)) rfl (by kernel_rfl) (by kernel_rfl) (by kernel_rfl) (fun _ _ _ h => h) (by rfl) hS0 (l' := #[true, true, true, true, true, true, true, true, true, false, false, false, false, false, false, false, false, false, false, false]) (by kernel_rfl) rfl ?_ ?_
            · intro w' hSw
              obtain ⟨s0, s1, s2⟩ := hSw
              go_simp
            try simp only [Act.put, List.setIfInBounds_toArray, List.set_cons_zero, List.set_cons_succ]
            refine held_take' (i := 9) (.pointer (some ⟨b, off + q * 5, none⟩)) rfl (by kernel_rfl) (by kernel_rfl) (by kernel_rfl) (fun _ _ _ h => h) (by rfl) hS0 (l' := #[true, true, true, true, true, true, true, true, true, true, false, false, false, false, false, false, false, false, false, false]) (by kernel_rfl) rfl ?_ ?_
            · intro w' hSw
              obtain ⟨s0, s1, s2⟩ := hSw
              go_simp
            try simp only [Act.put, List.setIfInBounds_toArray, List.set_cons_zero, List.set_cons_succ]
            refine held_take' (i := 10) (I x.node) rfl (by kernel_rfl) (by kernel_rfl) (by kernel_rfl) (fun _ _ _ h => h) (by rfl) hS0 (l' := #[true, true, true, true, true, true, true, true, true, true, true, false, false, false, false, false, false, false, false, false]) (by kernel_rfl) rfl ?_ ?_
            · intro w' hSw
              obtain ⟨s0, s1, s2⟩ := hSw
              go_simp
            try simp only [Act.put, List.setIfInBounds_toArray, List.set_cons_zero, List.set_cons_succ]
            refine held_take' (i := 12) (.slice ao2 m cap2) rfl (by kernel_rfl) (by kernel_rfl) (by kernel_rfl) (fun _ _ _ h => h) (by rfl) hS0 (l' := #[true, true, true, true, true, true, true, true, true, true, true, false, true, false, false, false, false, false, false, false]) (by kernel_rfl) rfl ?_ ?_
            · intro w' hSw
              obtain ⟨s0, s1, s2⟩ := hSw
              go_simp
            try simp only [Act.put, List.setIfInBounds_toArray, List.set_cons_zero, List.set_cons_succ]
            refine held_take' (i := 13) (.slice (some ⟨b, off, none⟩) n cap) rfl (by kernel_rfl) (by kernel_rfl) (by kernel_rfl) (fun _ _ _ h => h) (by rfl) hS0 (l' := #[true, true, true, true, true, true, true, true, true, true, true, false, true, true, false, false, false, false, false, false]) (by kernel_rfl) rfl ?_ ?_
            · intro w' hSw
              obtain ⟨s0, s1, s2⟩ := hSw
              go_simp
            try simp only [Act.put, List.setIfInBounds_toArray, List.set_cons_zero, List.set_cons_succ]
            refine held_take' (i := 14) (I k) rfl (by kernel_rfl) (by kernel_rfl) (by kernel_rfl) (fun _ _ _ h => h) (by rfl) hS0 (l' := #[true, true, true, true, true, true, true, true, true, true, true, false, true, true, true, false, false, false, false, false]) (by kernel_rfl) rfl ?_ ?_
            · intro w' hSw
              obtain ⟨s0, s1, s2⟩ := hSw
              go_simp
            try simp only [Act.put, List.setIfInBounds_toArray, List.set_cons_zero, List.set_cons_succ]
            refine held_take' (i := 15) (.pointer (some ⟨b, off + k * 5, none⟩)) rfl (by kernel_rfl) (by kernel_rfl) (by kernel_rfl) (fun _ _ _ h => h) (by rfl) hS0 (l' := #[true, true, true, true, true, true, true, true, true, true, true, false, true, true, true, true, false, false, false, false]) (by kernel_rfl) rfl ?_ ?_
            · intro w' hSw
              obtain ⟨s0, s1, s2⟩ := hSw
              go_simp
            try simp only [Act.put, List.setIfInBounds_toArray, List.set_cons_zero, List.set_cons_succ]
            refine held_take' (i := 16) (.pointer (some ⟨b, off + k * 5, none⟩)) rfl (by kernel_rfl) (by kernel_rfl) (by kernel_rfl) (fun _ _ _ h => h) (by rfl) hS0 (l' := #[true, true, true, true, true, true, true, true, true, true, true, false, true, true, true, true, true, false, false, false]) (by kernel_rfl) rfl ?_ ?_
            · intro w' hSw
              obtain ⟨s0, s1, s2⟩ := hSw
              go_simp
            try simp only [Act.put, List.setIfInBounds_toArray, List.set_cons_zero, List.set_cons_succ]
            refine held_take' (i := 17) (I y.node) rfl (by kernel_rfl) (by kernel_rfl) (by kernel_rfl) (fun _ _ _ h => h) (by rfl) hS0 (l' := #[true, true, true, true, true, true, true, true, true, true, true, false, true, true, true, true, true, true, false, false]) (by kernel_rfl) rfl ?_ ?_
            · intro w' hSw
              obtain ⟨s0, s1, s2⟩ := hSw
              go_simp
            try simp only [Act.put, List.setIfInBounds_toArray, List.set_cons_zero, List.set_cons_succ]
            refine held_one' (i := 11) rfl (by kernel_rfl) (by rfl) (l' := #[true, true, true, true, true, true, true, true, true, true, true, true, true, true, true, true, true, true, false, false]) (by kernel_rfl) ?_
            intro K hK
            go_simp
            (with_reducible refine (hidden_calls (H.out.fo.below hS0.2.2) H.out.wf y.node x.node).mono ?_)
            rw [HHD.out]
            rintro e w6 ⟨rfl, hb6⟩
            have e60 := cell_go hb6 hS0.1
            have e61 := cell_go hb6 hS0.2.1
            have B6 := Below.step hS0.2.2 hb6
            clear hb6
            refine hK _ _ ⟨e60, e61, B6⟩ ?_
            clear hK K
            have hS1 : (fun w2 : World => w2.cell? ⟨b, off + q * 5, none⟩ = some (I x.node) ∧ w2.cell? ⟨b, off + k * 5, none⟩ = some (I y.node) ∧ Below wr.heap.size wr w2) _ := ⟨e60, e61, B6⟩
            try simp only [Act.put, List.setIfInBounds_toArray, List.set_cons_zero, List.set_cons_succ]
            refine held_one' (i := 18) rfl (by kernel_rfl) (by rfl) (l' := #[true, true, true, true, true, true, true, true, true, true, true, true, true, true, true, true, true, true, true, false]) (by kernel_rfl) ?_
            intro K hK
            go_simp
            (with_reducible refine (has_calls (HI.out.below hS1.2.2) y.node).mono ?_)
            rw [HHS.out]
            rintro e w7 ⟨rfl, rfl⟩
            refine hK _ _ ⟨e60, e61, B6⟩ ?_
            clear hK K
            have hS2 : (fun w2 : World => w2.cell? ⟨b, off + q * 5, none⟩ = some (I x.node) ∧ w2.cell? ⟨b, off + k * 5, none⟩ = some (I y.node) ∧ Below wr.heap.size wr w2) _ := ⟨e60, e61, B6⟩
            try simp only [Act.put, List.setIfInBounds_toArray, List.set_cons_zero, List.set_cons_succ]
            refine held_take' (i := 19) (.bool false) rfl (by kernel_rfl) (by kernel_rfl) (by kernel_rfl) (fun _ _ _ h => h) (by rfl) hS2 (l' := #[true, true, true, true, true, true, true, true, true, true, true, true, true, true, true, true, true, true, true, true]) (by kernel_rfl) rfl ?_ ?_
            · intro w' hSw
              obtain ⟨s0, s1, s2⟩ := hSw
              go_simp
            try simp only [Act.put, List.setIfInBounds_toArray, List.set_cons_zero, List.set_cons_succ]
            refine wpAnyH_done (by kernel_rfl) ?_ _
            go_wp2
            go_roundw
            case rel => exact ⟨k + 1, by go_num, by omega, H.out.next B6, HPS.out.below B6, HI.out.below B6, Nat.le_trans hz B6.size⟩
            case measure => simp [intOf]; omega
        · have e : k = n := by omega
          subst e
          go_wp2
          go_roundw
          case rel => exact ⟨q + 1, by go_num, by omega, H.out, HPS.out, hz⟩
          case measure => simp [intOf]; omega
    · have e : q = n := by omega
      subst e
      go_wp2
      go_ret
      exact ⟨rfl, H.out.bel⟩
end Go.Proofs.Ytidekbamlnpglaa.K15

/-
  The walks of the laws of layer 8 that don't ask the document.
-/
import Derived.Test.YtidekbamlnpglaaLaw08a
namespace Go.Proofs.Ytidekbamlnpglaa.K08
open Go.RowKit Tc

theorem dfalse {p : Prop} [Decidable p] (h : ¬ p) : decide p = false := decide_eq_false_iff_not.2 h

set_option maxRecDepth 100000 in
set_option maxHeartbeats 6400000 in
theorem ShadeWhole_walk {w : World} {v : Value} {acts : List Tc.Act} (h : ActsAt w v acts) (a b c : Int) :
    Calls Try.prog 3 #[v, I a, I b, I c] w fun e w' => e = .returned (.bool true) ∧ Below w.heap.size w w' := by
  have HA := Lib.hid h
  clear h
  go_enter Try.func3, Try.ntmps3
  go_wp2_with fail
  refine (awake_calls w).mono ?_
  rintro e w1 ⟨rfl, hb1⟩
  have HB1 := Lib.hid hb1
  clear hb1
  go_wp2_with fail
  refine (great_calls (HA.out.below HB1.out)).mono ?_
  obtain ⟨x, hx⟩ : ∃ x, fewB acts = x := ⟨_, rfl⟩
  rw [hx]
  rintro e w2 ⟨rfl, hb2⟩
  have HFW := Lib.hid hx
  have HB2 := Lib.hid hb2
  clear hb2 hx
  cases x
  · go_wp2
    go_ret
    exact ⟨rfl, Below.step HB1.out HB2.out⟩
  go_wp2_with fail
  refine (made_calls ((HA.out.below HB1.out).below HB2.out) HFW.out).mono ?_
  obtain ⟨L, hL⟩ : ∃ L, mades acts = L := ⟨_, rfl⟩
  have hW := WF.mades acts
  rw [hL] at hW ⊢
  have HL := Lib.hid hL
  rintro e w3 ⟨hb, rfl, hfo, hb3⟩
  have H := Lib.hid (St.start HB1.out HB2.out hfo hb3 hW)
  clear hL hW hfo hb3 HA HB1 HB2 HFW
  obtain ⟨xTA, hxTA⟩ : ∃ x, there L a = x := ⟨_, rfl⟩
  have HTA := Lib.hid hxTA
  clear hxTA
  cases xTA
  · go_wp2_with fail
    refine (node_calls H.out.fo a).mono ?_
    rw [HTA.out]
    rintro e w4 ⟨ka4, kc4, rfl, _, hb4⟩
    have H := Lib.hid (H.out.next hb4)
    clear hb4
    have e1 := whole_zero HTA.out
    have e2 : decide (a ∈ over L b) = false := decide_eq_false_iff_not.2 fun hm => by rw [holds_there hm] at HTA; exact absurd HTA.out (by simp)
    have e3 : decide (b ∈ over L a) = false := decide_eq_false_iff_not.2 fun hm => by rw [over_not HTA.out] at hm; cases hm
    have E1 := Lib.hid e1
    have E2 := Lib.hid e2
    have E3 := Lib.hid e3
    clear e1 e2 e3
    go_wp2_with fail
    refine (whole_calls (H.out.next (below1 _ _)).fo H.out.wf a).mono ?_
    rw [E1.out]
    rintro e w5 ⟨rfl, hb5⟩
    have H := Lib.hid ((H.out.next (below1 _ _)).next hb5)
    clear hb5
    go_wp2_with fail
    refine (holds_calls H.out.fo H.out.wf a b).mono ?_
    rw [E2.out]
    rintro e w6 ⟨rfl, hb6⟩
    have H := Lib.hid (H.out.next hb6)
    clear hb6
    go_wp2_with fail
    refine (holds_calls H.out.fo H.out.wf b a).mono ?_
    rw [E3.out]
    rintro e w7 ⟨rfl, hb7⟩
    have H := Lib.hid (H.out.next hb7)
    clear hb7
    go_wp2
    go_ret
    exact ⟨rfl, H.out.bel⟩
  · go_wp2_with fail
    refine (node_calls H.out.fo a).mono ?_
    rw [HTA.out]
    rintro e w4 ⟨ka4, kc4, rfl, _, hb4⟩
    have H := Lib.hid (H.out.next hb4)
    clear hb4
    have e1 := whole_whole H.out.wf HTA.out
    have e2 : decide (whole L a ∈ over L a) = true := decide_eq_true (over_last H.out.wf HTA.out).2.2
    have e3 : decide (a ∈ over L a) = true := decide_eq_true (mem_over_self H.out.wf.ends HTA.out)
    have e0 := whole_ne H.out.wf HTA.out
    obtain ⟨r, hr⟩ : ∃ r, whole L a = r := ⟨_, rfl⟩
    rw [hr] at e0 e1 e2
    have r0 : (r != 0) = true := by simpa using e0
    have E1 := Lib.hid e1
    have E2 := Lib.hid e2
    have E3 := Lib.hid e3
    have ER := Lib.hid hr
    clear e0 e1 e2 e3 hr
    go_wp2_with fail
    refine (whole_calls (H.out.next (below1 _ _)).fo H.out.wf a).mono ?_
    rw [ER.out]
    rintro e w5 ⟨rfl, hb5⟩
    have H := Lib.hid ((H.out.next (below1 _ _)).next hb5)
    clear hb5
    go_wp2_with fail
    refine (whole_calls H.out.fo H.out.wf r).mono ?_
    rw [E1.out]
    rintro e w6 ⟨rfl, hb6⟩
    have H := Lib.hid (H.out.next hb6)
    clear hb6
    go_wp2_with fail
    refine (holds_calls H.out.fo H.out.wf r a).mono ?_
    rw [E2.out]
    rintro e w7 ⟨rfl, hb7⟩
    have H := Lib.hid (H.out.next hb7)
    clear hb7
    go_wp2_with fail
    refine (holds_calls H.out.fo H.out.wf a a).mono ?_
    rw [E3.out]
    rintro e w8 ⟨rfl, hb8⟩
    have H := Lib.hid (H.out.next hb8)
    clear hb8
    obtain ⟨xAB, hxAB⟩ : ∃ x, decide (a ∈ over L b) = x := ⟨_, rfl⟩
    have HAB := Lib.hid hxAB
    clear hxAB
    cases xAB
    · go_wp2_with fail
      refine (holds_calls H.out.fo H.out.wf a b).mono ?_
      rw [HAB.out]
      rintro e w9 ⟨rfl, hb9⟩
      have H := Lib.hid (H.out.next hb9)
      clear hb9
      go_wp2_with fail
      refine (holds_calls H.out.fo H.out.wf a b).mono ?_
      rw [HAB.out]
      rintro e w10 ⟨rfl, hb10⟩
      have H := Lib.hid (H.out.next hb10)
      clear hb10
      go_wp2
      go_ret
      exact ⟨rfl, H.out.bel⟩
    · go_wp2_with fail
      refine (holds_calls H.out.fo H.out.wf a b).mono ?_
      rw [HAB.out]
      rintro e w9 ⟨rfl, hb9⟩
      have H := Lib.hid (H.out.next hb9)
      clear hb9
      obtain ⟨xBC, hxBC⟩ : ∃ x, decide (b ∈ over L c) = x := ⟨_, rfl⟩
      have HBC := Lib.hid hxBC
      clear hxBC
      cases xBC
      · go_wp2_with fail
        refine (holds_calls H.out.fo H.out.wf b c).mono ?_
        rw [HBC.out]
        rintro e w10 ⟨rfl, hb10⟩
        have H := Lib.hid (H.out.next hb10)
        clear hb10
        go_wp2_with fail
        refine (holds_calls H.out.fo H.out.wf a b).mono ?_
        rw [HAB.out]
        rintro e w11 ⟨rfl, hb11⟩
        have H := Lib.hid (H.out.next hb11)
        clear hb11
        obtain ⟨xBA, hxBA⟩ : ∃ x, decide (b ∈ over L a) = x := ⟨_, rfl⟩
        have HBA := Lib.hid hxBA
        clear hxBA
        cases xBA
        · go_wp2_with fail
          refine (holds_calls H.out.fo H.out.wf b a).mono ?_
          rw [HBA.out]
          rintro e w12 ⟨rfl, hb12⟩
          have H := Lib.hid (H.out.next hb12)
          clear hb12
          go_wp2
          go_ret
          exact ⟨rfl, H.out.bel⟩
        · have q : (a == b) = true := by
            have := over_antisymm H.out.wf.ends (of_decide_eq_true HAB.out) (of_decide_eq_true HBA.out)
            simpa using this
          go_wp2_with fail
          refine (holds_calls H.out.fo H.out.wf b a).mono ?_
          rw [HBA.out]
          rintro e w12 ⟨rfl, hb12⟩
          have H := Lib.hid (H.out.next hb12)
          clear hb12
          go_wp2
          go_ret
          exact ⟨rfl, H.out.bel⟩
      · go_wp2_with fail
        refine (holds_calls H.out.fo H.out.wf b c).mono ?_
        rw [HBC.out]
        rintro e w10 ⟨rfl, hb10⟩
        have H := Lib.hid (H.out.next hb10)
        clear hb10
        have HAC := Lib.hid (decide_eq_true (over_trans H.out.wf.ends (of_decide_eq_true HAB.out) (of_decide_eq_true HBC.out)))
        go_wp2_with fail
        refine (holds_calls H.out.fo H.out.wf a c).mono ?_
        rw [HAC.out]
        rintro e w11 ⟨rfl, hb11⟩
        have H := Lib.hid (H.out.next hb11)
        clear hb11
        go_wp2_with fail
        refine (holds_calls H.out.fo H.out.wf a b).mono ?_
        rw [HAB.out]
        rintro e w12 ⟨rfl, hb12⟩
        have H := Lib.hid (H.out.next hb12)
        clear hb12
        obtain ⟨xBA, hxBA⟩ : ∃ x, decide (b ∈ over L a) = x := ⟨_, rfl⟩
        have HBA := Lib.hid hxBA
        clear hxBA
        cases xBA
        · go_wp2_with fail
          refine (holds_calls H.out.fo H.out.wf b a).mono ?_
          rw [HBA.out]
          rintro e w13 ⟨rfl, hb13⟩
          have H := Lib.hid (H.out.next hb13)
          clear hb13
          go_wp2
          go_ret
          exact ⟨rfl, H.out.bel⟩
        · have q : (a == b) = true := by
            have := over_antisymm H.out.wf.ends (of_decide_eq_true HAB.out) (of_decide_eq_true HBA.out)
            simpa using this
          go_wp2_with fail
          refine (holds_calls H.out.fo H.out.wf b a).mono ?_
          rw [HBA.out]
          rintro e w13 ⟨rfl, hb13⟩
          have H := Lib.hid (H.out.next hb13)
          clear hb13
          go_wp2
          go_ret
          exact ⟨rfl, H.out.bel⟩

set_option maxRecDepth 100000 in
set_option maxHeartbeats 6400000 in
theorem ShadeHidden_walk {w : World} {v : Value} {acts : List Tc.Act} (h : ActsAt w v acts) (a b : Int) :
    Calls Try.prog 4 #[v, I a, I b] w fun e w' => e = .returned (.bool true) ∧ Below w.heap.size w w' := by
  have HA := Lib.hid h
  clear h
  go_enter Try.func4, Try.ntmps4
  go_wp2_with fail
  refine (awake_calls w).mono ?_
  rintro e w1 ⟨rfl, hb1⟩
  have HB1 := Lib.hid hb1
  clear hb1
  go_wp2_with fail
  refine (great_calls (HA.out.below HB1.out)).mono ?_
  obtain ⟨x, hx⟩ : ∃ x, fewB acts = x := ⟨_, rfl⟩
  rw [hx]
  rintro e w2 ⟨rfl, hb2⟩
  have HFW := Lib.hid hx
  have HB2 := Lib.hid hb2
  clear hb2 hx
  cases x
  · go_wp2
    go_ret
    exact ⟨rfl, Below.step HB1.out HB2.out⟩
  go_wp2_with fail
  refine (made_calls ((HA.out.below HB1.out).below HB2.out) HFW.out).mono ?_
  obtain ⟨L, hL⟩ : ∃ L, mades acts = L := ⟨_, rfl⟩
  have hW := WF.mades acts
  rw [hL] at hW ⊢
  have HL := Lib.hid hL
  rintro e w3 ⟨hb, rfl, hfo, hb3⟩
  have H := Lib.hid (St.start HB1.out HB2.out hfo hb3 hW)
  clear hL hW hfo hb3 HA HB1 HB2 HFW
  obtain ⟨xTA, hxTA⟩ : ∃ x, there L a = x := ⟨_, rfl⟩
  have HTA := Lib.hid hxTA
  clear hxTA
  cases xTA
  · go_wp2_with fail
    refine (node_calls H.out.fo a).mono ?_
    rw [HTA.out]
    rintro e w4 ⟨ka4, kc4, rfl, _, hb4⟩
    have H := Lib.hid (H.out.next hb4)
    clear hb4
    have E1 := Lib.hid (hidden_not (b := b) HTA.out)
    go_wp2_with fail
    refine (hidden_calls (H.out.next (below1 _ _)).fo H.out.wf a b).mono ?_
    rw [E1.out]
    rintro e w5 ⟨rfl, hb5⟩
    have H := Lib.hid ((H.out.next (below1 _ _)).next hb5)
    clear hb5
    go_wp2
    go_ret
    exact ⟨rfl, H.out.bel⟩
  · go_wp2_with fail
    refine (node_calls H.out.fo a).mono ?_
    rw [HTA.out]
    rintro e w4 ⟨ka4, kc4, rfl, _, hb4⟩
    have H := Lib.hid (H.out.next hb4)
    clear hb4
    obtain ⟨xTB, hxTB⟩ : ∃ x, there L b = x := ⟨_, rfl⟩
    have HTB := Lib.hid hxTB
    clear hxTB
    cases xTB
    · go_wp2_with fail
      refine (node_calls (H.out.next (below1 _ _)).fo b).mono ?_
      rw [HTB.out]
      rintro e w5 ⟨ka5, kc5, rfl, _, hb5⟩
      have H := Lib.hid ((H.out.next (below1 _ _)).next hb5)
      clear hb5
      have E1 := Lib.hid (hidden_nb (a := a) HTB.out)
      go_wp2_with fail
      refine (hidden_calls (H.out.next (below1 _ _)).fo H.out.wf a b).mono ?_
      rw [E1.out]
      rintro e w6 ⟨rfl, hb6⟩
      have H := Lib.hid ((H.out.next (below1 _ _)).next hb6)
      clear hb6
      go_wp2
      go_ret
      exact ⟨rfl, H.out.bel⟩
    · go_wp2_with fail
      refine (node_calls (H.out.next (below1 _ _)).fo b).mono ?_
      rw [HTB.out]
      rintro e w5 ⟨ka5, kc5, rfl, _, hb5⟩
      have H := Lib.hid ((H.out.next (below1 _ _)).next hb5)
      clear hb5
      go_wp2_with fail
      refine (closed_calls (H.out.next (below1 _ _)).fo H.out.wf a).mono ?_
      obtain ⟨l, hl⟩ : ∃ l, closeds L a = l := ⟨_, rfl⟩
      rw [hl]
      have HCL := Lib.hid hl
      clear hl
      rintro e w6 ⟨lv, rfl, hown, hb6⟩
      have H := Lib.hid ((H.out.next (below1 _ _)).next hb6)
      have hint := hown.ints
      clear hb6 hown
      obtain ⟨ao, cap, rfl, hc1, hc2, hsl⟩ := hint.open
      obtain ⟨n, hn⟩ : ∃ n, l.length = n := ⟨_, rfl⟩
      have HN := Lib.hid hn
      have HI := Lib.hid hint
      have HSL := Lib.hid hsl
      rw [hn] at HI HSL hc1 ⊢
      unfold maxLen at hc2
      clear hn hint hsl
      obtain ⟨P, hP⟩ : ∃ P : Int → Bool, (fun r => !decide (r ∈ over L b)) = P := ⟨_, rfl⟩
      have HP := Lib.hid hP
      clear hP
      go_wp2
      go_loopw [12, 14] (fun s c wr => ∃ k : Nat, c = I k ∧ k ≤ n ∧ s = .bool ((l.take k).any P) ∧ St w wr hb L ∧ IntsAt wr (.slice ao n cap) l) (fun _ c _ => n - (intOf c).toNat)
      case atStart => exact ⟨0, rfl, by omega, rfl, H.out, HI.out⟩
      case round =>
        obtain ⟨k, rfl, hk, rfl, hst, hin⟩ := hrel
        clear H HI
        have H := Lib.hid hst
        have HI := Lib.hid hin
        clear hst hin
        obtain ⟨s, hs⟩ : ∃ s, (l.take k).any P = s := ⟨_, rfl⟩
        rw [hs]
        have HS := Lib.hid hs
        clear hs
        by_cases hlt : k < n
        · obtain ⟨bb, off, e⟩ := HSL.out (by omega)
          subst e
          have hcell := HI.out.cellAt k (by rw [HN.out]; omega)
          obtain ⟨y, hy⟩ : ∃ y, l.getD k 0 = y := ⟨_, rfl⟩
          rw [hy] at hcell
          have ht : (l.take (k + 1)).any P = (s || P y) := by
            have hlt' : k < l.length := by rw [HN.out]; exact hlt
            have e : l.getD k 0 = l[k] := by rw [List.getD_eq_getElem?_getD, List.getElem?_eq_getElem hlt', Option.getD_some]
            rw [List.take_succ_eq_append_getElem hlt', List.any_append, HS.out, ← hy, e]; simp
          have HT := Lib.hid ht
          clear ht hy
          cases s
          · go_wp2_with fail
            refine (holds_calls H.out.fo H.out.wf y b).mono ?_
            have hpy : P y = !decide (y ∈ over L b) := by rw [← HP.out]
            obtain ⟨z, hz⟩ : ∃ z, decide (y ∈ over L b) = z := ⟨_, rfl⟩
            rw [hz] at hpy ⊢
            have HPY := Lib.hid hpy
            rintro e w9 ⟨rfl, hb9⟩
            have hcell9 : IntsAt w9 (.slice (some ⟨bb, off, none⟩) n cap) l := HI.out.below hb9
            have HI9 := Lib.hid hcell9
            have H9 := Lib.hid (H.out.next hb9)
            clear hz hpy hb9 hcell9
            go_wp2
            go_roundw
            case rel => exact ⟨k + 1, by go_num, by omega, by rw [HT.out, HPY.out]; rfl, H9.out, HI9.out⟩
            case measure => simp [intOf]; omega
          · go_wp2
            go_roundw
            case rel => exact ⟨k + 1, by go_num, by omega, by rw [HT.out]; rfl, H.out, HI.out⟩
            case measure => simp [intOf]; omega
        · have e : k = n := by omega
          subst e
          have e2 : hidden L a b = true → s = true := fun hh => by
            have := hidden_some hh
            rw [HCL.out, HP.out] at this
            rw [← HS.out, List.take_of_length_le (Nat.le_of_eq HN.out)]; exact this
          have HSO := Lib.hid e2
          have E0 := Lib.hid (hidden_self (L := L) a)
          clear e2
          obtain ⟨xAB, hxAB⟩ : ∃ x, hidden L a b = x := ⟨_, rfl⟩
          have HAB := Lib.hid hxAB
          clear hxAB
          cases xAB
          · cases s
            · go_wp2_with fail
              refine (hidden_calls H.out.fo H.out.wf a b).mono ?_
              rw [HAB.out]
              rintro e w7 ⟨rfl, hb7⟩
              have H := Lib.hid (H.out.next hb7)
              clear hb7
              go_wp2_with fail
              refine (hidden_calls H.out.fo H.out.wf a a).mono ?_
              rw [E0.out]
              rintro e w8 ⟨rfl, hb8⟩
              have H := Lib.hid (H.out.next hb8)
              clear hb8
              go_wp2_with fail
              refine (root_calls H.out.fo H.out.wf.ends a).mono ?_
              rintro e w9 ⟨rfl, hb9⟩
              have H := Lib.hid (H.out.next hb9)
              clear hb9
              obtain ⟨xRB, hxRB⟩ : ∃ x, decide (root L a ∈ over L b) = x := ⟨_, rfl⟩
              have HRB := Lib.hid hxRB
              clear hxRB
              cases xRB
              · go_wp2_with fail
                refine (holds_calls H.out.fo H.out.wf (root L a) b).mono ?_
                rw [HRB.out]
                rintro e w10 ⟨rfl, hb10⟩
                have H := Lib.hid (H.out.next hb10)
                clear hb10
                go_wp2
                go_ret
                exact ⟨rfl, H.out.bel⟩
              · go_wp2_with fail
                refine (holds_calls H.out.fo H.out.wf (root L a) b).mono ?_
                rw [HRB.out]
                rintro e w10 ⟨rfl, hb10⟩
                have H := Lib.hid (H.out.next hb10)
                clear hb10
                go_wp2_with fail
                refine (hidden_calls H.out.fo H.out.wf a b).mono ?_
                rw [HAB.out]
                rintro e w11 ⟨rfl, hb11⟩
                have H := Lib.hid (H.out.next hb11)
                clear hb11
                go_wp2
                go_ret
                exact ⟨rfl, H.out.bel⟩
            · go_wp2_with fail
              refine (hidden_calls H.out.fo H.out.wf a b).mono ?_
              rw [HAB.out]
              rintro e w10 ⟨rfl, hb10⟩
              have H := Lib.hid (H.out.next hb10)
              clear hb10
              go_wp2_with fail
              refine (hidden_calls H.out.fo H.out.wf a b).mono ?_
              rw [HAB.out]
              rintro e w11 ⟨rfl, hb11⟩
              have H := Lib.hid (H.out.next hb11)
              clear hb11
              go_wp2_with fail
              refine (hidden_calls H.out.fo H.out.wf a a).mono ?_
              rw [E0.out]
              rintro e w12 ⟨rfl, hb12⟩
              have H := Lib.hid (H.out.next hb12)
              clear hb12
              go_wp2_with fail
              refine (root_calls H.out.fo H.out.wf.ends a).mono ?_
              rintro e w13 ⟨rfl, hb13⟩
              have H := Lib.hid (H.out.next hb13)
              clear hb13
              obtain ⟨xRB, hxRB⟩ : ∃ x, decide (root L a ∈ over L b) = x := ⟨_, rfl⟩
              have HRB := Lib.hid hxRB
              clear hxRB
              cases xRB
              · go_wp2_with fail
                refine (holds_calls H.out.fo H.out.wf (root L a) b).mono ?_
                rw [HRB.out]
                rintro e w14 ⟨rfl, hb14⟩
                have H := Lib.hid (H.out.next hb14)
                clear hb14
                go_wp2
                go_ret
                exact ⟨rfl, H.out.bel⟩
              · go_wp2_with fail
                refine (holds_calls H.out.fo H.out.wf (root L a) b).mono ?_
                rw [HRB.out]
                rintro e w14 ⟨rfl, hb14⟩
                have H := Lib.hid (H.out.next hb14)
                clear hb14
                go_wp2_with fail
                refine (hidden_calls H.out.fo H.out.wf a b).mono ?_
                rw [HAB.out]
                rintro e w15 ⟨rfl, hb15⟩
                have H := Lib.hid (H.out.next hb15)
                clear hb15
                go_wp2
                go_ret
                exact ⟨rfl, H.out.bel⟩
          · obtain rfl : s = true := HSO.out HAB.out
            go_wp2_with fail
            refine (hidden_calls H.out.fo H.out.wf a b).mono ?_
            rw [HAB.out]
            rintro e w7 ⟨rfl, hb7⟩
            have H := Lib.hid (H.out.next hb7)
            clear hb7
            go_wp2_with fail
            refine (hidden_calls H.out.fo H.out.wf a a).mono ?_
            rw [E0.out]
            rintro e w8 ⟨rfl, hb8⟩
            have H := Lib.hid (H.out.next hb8)
            clear hb8
            go_wp2_with fail
            refine (root_calls H.out.fo H.out.wf.ends a).mono ?_
            rintro e w9 ⟨rfl, hb9⟩
            have H := Lib.hid (H.out.next hb9)
            clear hb9
            obtain ⟨xRB, hxRB⟩ : ∃ x, decide (root L a ∈ over L b) = x := ⟨_, rfl⟩
            have HRB := Lib.hid hxRB
            clear hxRB
            cases xRB
            · go_wp2_with fail
              refine (holds_calls H.out.fo H.out.wf (root L a) b).mono ?_
              rw [HRB.out]
              rintro e w10 ⟨rfl, hb10⟩
              have H := Lib.hid (H.out.next hb10)
              clear hb10
              go_wp2
              go_ret
              exact ⟨rfl, H.out.bel⟩
            · go_wp2_with fail
              refine (holds_calls H.out.fo H.out.wf (root L a) b).mono ?_
              rw [HRB.out]
              rintro e w10 ⟨rfl, hb10⟩
              have H := Lib.hid (H.out.next hb10)
              clear hb10
              exact absurd (hidden_root H.out.wf HTA.out HTB.out (of_decide_eq_true HRB.out)) (by rw [HAB.out]; simp)

end Go.Proofs.Ytidekbamlnpglaa.K08

/-
  The walks of path's closed and Parent, and of aim.Aim.
-/
import Derived.Test.YtidekbamlnpglaaSe
import Derived.Test.YtidekbamlnpglaaPp
namespace Go.Proofs.Ytidekbamlnpglaa
open Go.RowKit Tc

set_option maxHeartbeats 800000 in
theorem pclosed_calls {w : World} {hb : Nat} {S : Nat → Prop} {L : Fo} (h : FoAt w hb S L) (id : Int) :
    Calls Try.prog 114 #[ptr hb, I id] w fun e w' => e = .returned (.bool (closedB L id)) ∧ Below w.heap.size w w' := by
  obtain ⟨x, hx⟩ : ∃ x, nd L id = x := ⟨_, rfl⟩
  have he : closedB L id = (x.kind == 3 && x.mode == 2) := by
    unfold closedB
    rw [hx]
    by_cases e : x.kind = 3 <;> by_cases e2 : x.mode = 2 <;> simp [e, e2]
  rw [he]
  have H := Lib.hid h
  have HX := Lib.hid hx
  clear h hx
  clear he
  by_cases hk : x.kind = 3
  · have k1 : (x.kind == 3) = true := by simpa using hk
    clear hk
    rw [k1, Bool.true_and]
    go_enter Try.func114, Try.ntmps114
    go_wp2_with fail
    (with_reducible refine (node_calls H.out id).mono ?_)
    rw [HX.out]
    rintro e w1 ⟨ka, kc, rfl, _, hb1⟩
    have HB1 := Lib.hid hb1
    clear hb1
    go_wp2
    go_ret
    exact ⟨rfl, Below.step HB1.out (below1 _ _)⟩
  · have k1 : (x.kind == 3) = false := by simpa using hk
    clear hk
    rw [k1, Bool.false_and]
    go_enter Try.func114, Try.ntmps114
    go_wp2_with fail
    (with_reducible refine (node_calls H.out id).mono ?_)
    rw [HX.out]
    rintro e w1 ⟨ka, kc, rfl, _, hb1⟩
    have HB1 := Lib.hid hb1
    clear hb1
    go_wp2
    go_ret
    exact ⟨rfl, Below.step HB1.out (below1 _ _)⟩

set_option maxRecDepth 100000 in
set_option maxHeartbeats 1600000 in
theorem aim_calls {w : World} {hb : Nat} {S : Nat → Prop} {L : Fo} (h : FoAt w hb S L) (hW : WF L) (a b : Int) :
    Calls Try.prog 112 #[ptr hb, I a, I b] w fun e w' => e = .returned (I (aim L a b)) ∧ Below w.heap.size w w' := by
  obtain ⟨res, hres⟩ : ∃ res, aim L a b = res := ⟨_, rfl⟩
  rw [hres]
  have H := Lib.hid h
  have HW := Lib.hid hW
  have HRES := Lib.hid hres
  clear h hW hres
  go_enter Try.func112, Try.ntmps112
  go_wp2
  go_loopw [1] (fun i wr => ∃ cur, i = I cur ∧ aim L cur b = res ∧ Below w.heap.size w wr) (fun i _ => dep L (intOf i))
  case atStart => exact ⟨a, rfl, HRES.out, Below.refl _ _⟩
  case round =>
    obtain ⟨cur, rfl, hr, hbel⟩ := hrel
    have HR := Lib.hid hr
    have HB := Lib.hid hbel
    clear hr hbel
    obtain ⟨r, hroot⟩ : ∃ r, root L cur = r := ⟨_, rfl⟩
    obtain ⟨x, hx⟩ : ∃ x, nd L r = x := ⟨_, rfl⟩
    cases ht : there L cur
    · have h0 : r = 0 := by rw [← hroot]; exact root_zero ht
      have htr : there L r = false := by rw [h0]; exact there_zero L
      have hz : res = 0 := by rw [← HR.out]; exact aim_not ht
      subst hz
      have HRT := Lib.hid hroot
      have HTR := Lib.hid htr
      clear hroot hx htr ht h0
      go_wp2_with fail
      (with_reducible refine (root_calls (H.out.below HB.out) HW.out.ends cur).mono ?_)
      rw [HRT.out]
      rintro e w1 ⟨rfl, hb1⟩
      have HB1 := Lib.hid hb1
      clear hb1
      go_wp2_with fail
      (with_reducible refine (node_calls (H.out.below (Below.step HB.out HB1.out)) r).mono ?_)
      rw [HTR.out]
      rintro e w2 ⟨ka, kc, rfl, _, hb2⟩
      have HB2 := Lib.hid hb2
      clear hb2
      go_wp2
      go_ret
      exact ⟨rfl, Below.step (Below.step (Below.step HB.out HB1.out) HB2.out) (below1 _ _)⟩
    · have htr : there L r = true := by rw [← hroot]; exact (root_there HW.out ht).1
      have ho : outH L cur = x.host := by rw [outH_eq HW.out, hroot]; unfold hst; rw [hx]
      have hk3 : x.host ≠ 0 → x.kind = 3 := fun e => by
        have := HW.out.hst_kind r (by unfold hst; rw [hx]; exact e)
        rw [hx] at this; exact this
      have hcase : ((x.kind != 3) = true ∧ res = cur) ∨ ((x.kind != 3) = false ∧ (x.host == 0) = true ∧ res = cur) ∨ ((x.kind != 3) = false ∧ (x.host == 0) = false ∧ decide (r ∈ over L b) = true ∧ res = cur) ∨
          ((x.kind != 3) = false ∧ (x.host == 0) = false ∧ decide (r ∈ over L b) = false ∧ aim L x.host b = res ∧ dep L x.host < dep L cur) := by
        have st := fun q => aim_stay (b := b) ht q
        rw [HR.out, ho, hroot] at st
        by_cases k : x.kind = 3
        · by_cases z : x.host = 0
          · exact Or.inr (Or.inl ⟨by simp [k], by simpa using z, st (Or.inl z)⟩)
          · by_cases m : r ∈ over L b
            · exact Or.inr (Or.inr (Or.inl ⟨by simp [k], by simpa using z, decide_eq_true m, st (Or.inr m)⟩))
            · refine Or.inr (Or.inr (Or.inr ⟨by simp [k], by simpa using z, decide_eq_false m, ?_, ?_⟩))
              · have := aim_out HW.out (b := b) ht (by rw [ho, hroot]; exact fun e => e.elim z m)
                rw [HR.out, ho] at this; exact this.symm
              · have := over_outH_lt HW.out ht
                rw [ho] at this; exact this
        · have z : x.host = 0 := Classical.byContradiction fun z => k (hk3 z)
          exact Or.inl ⟨by simpa using k, st (Or.inl z)⟩
      have HRT := Lib.hid hroot
      have HTR := Lib.hid htr
      have HX := Lib.hid hx
      clear hroot hx htr ht ho hk3
      rcases hcase with ⟨k1, k2⟩ | ⟨k1, k2, k3⟩ | ⟨k1, k2, k4, k3⟩ | ⟨k1, k2, k4, k3, k5⟩
      · subst k2
        go_wp2_with fail
        (with_reducible refine (root_calls (H.out.below HB.out) HW.out.ends res).mono ?_)
        rw [HRT.out]
        rintro e w1 ⟨rfl, hb1⟩
        have HB1 := Lib.hid hb1
        clear hb1
        go_wp2_with fail
        (with_reducible refine (node_calls (H.out.below (Below.step HB.out HB1.out)) r).mono ?_)
        rw [HTR.out, HX.out]
        rintro e w2 ⟨ka, kc, rfl, _, hb2⟩
        have HB2 := Lib.hid hb2
        clear hb2
        go_wp2
        go_ret
        exact ⟨rfl, Below.step (Below.step (Below.step HB.out HB1.out) HB2.out) (below1 _ _)⟩
      · subst k3
        go_wp2_with fail
        (with_reducible refine (root_calls (H.out.below HB.out) HW.out.ends res).mono ?_)
        rw [HRT.out]
        rintro e w1 ⟨rfl, hb1⟩
        have HB1 := Lib.hid hb1
        clear hb1
        go_wp2_with fail
        (with_reducible refine (node_calls (H.out.below (Below.step HB.out HB1.out)) r).mono ?_)
        rw [HTR.out, HX.out]
        rintro e w2 ⟨ka, kc, rfl, _, hb2⟩
        have HB2 := Lib.hid hb2
        clear hb2
        go_wp2
        go_ret
        exact ⟨rfl, Below.step (Below.step (Below.step HB.out HB1.out) HB2.out) (below1 _ _)⟩
      · subst k3
        have K4 := Lib.hid k4
        clear k4
        go_wp2_with fail
        (with_reducible refine (root_calls (H.out.below HB.out) HW.out.ends res).mono ?_)
        rw [HRT.out]
        rintro e w1 ⟨rfl, hb1⟩
        have HB1 := Lib.hid hb1
        clear hb1
        go_wp2_with fail
        (with_reducible refine (node_calls (H.out.below (Below.step HB.out HB1.out)) r).mono ?_)
        rw [HTR.out, HX.out]
        rintro e w2 ⟨ka, kc, rfl, _, hb2⟩
        have HB2 := Lib.hid hb2
        clear hb2
        go_wp2_with fail
        (with_reducible refine (holds_calls (H.out.below (Below.step (Below.step (Below.step HB.out HB1.out) HB2.out) (below1 _ _))) HW.out r b).mono ?_)
        rw [K4.out]
        rintro e w3 ⟨rfl, hb3⟩
        have HB3 := Lib.hid hb3
        clear hb3
        go_wp2
        go_ret
        exact ⟨rfl, Below.step (Below.step (Below.step (Below.step HB.out HB1.out) HB2.out) (below1 _ _)) HB3.out⟩
      · have K3 := Lib.hid k3
        have K4 := Lib.hid k4
        clear k3 k4
        go_wp2_with fail
        (with_reducible refine (root_calls (H.out.below HB.out) HW.out.ends cur).mono ?_)
        rw [HRT.out]
        rintro e w1 ⟨rfl, hb1⟩
        have HB1 := Lib.hid hb1
        clear hb1
        go_wp2_with fail
        (with_reducible refine (node_calls (H.out.below (Below.step HB.out HB1.out)) r).mono ?_)
        rw [HTR.out, HX.out]
        rintro e w2 ⟨ka, kc, rfl, _, hb2⟩
        have HB2 := Lib.hid hb2
        clear hb2
        go_wp2_with fail
        (with_reducible refine (holds_calls (H.out.below (Below.step (Below.step (Below.step HB.out HB1.out) HB2.out) (below1 _ _))) HW.out r b).mono ?_)
        rw [K4.out]
        rintro e w3 ⟨rfl, hb3⟩
        have c2 := cell_go hb3 (cell_new (o := 2) (v := I x.host) rfl rfl)
        have HB3 := Lib.hid hb3
        clear hb3
        go_wp2
        go_roundw
        case rel => exact ⟨x.host, rfl, K3.out, Below.step (Below.step (Below.step (Below.step HB.out HB1.out) HB2.out) (below1 _ _)) HB3.out⟩
        case measure => exact k5

set_option maxRecDepth 100000 in
set_option maxHeartbeats 1600000 in
theorem parent_calls {w : World} {hb : Nat} {S : Nat → Prop} {L : Fo} (h : FoAt w hb S L) (hW : WF L) (id first : Int) (c : Bool) :
    Calls Try.prog 67 #[ptr hb, I id, I first, .bool c] w fun e w' => e = .returned (I (parentE L first c id)) ∧ Below w.heap.size w w' := by
  obtain ⟨x, hx⟩ : ∃ x, nd L id = x := ⟨_, rfl⟩
  obtain ⟨s, hs⟩ : ∃ s, slotOf L id = s := ⟨_, rfl⟩
  obtain ⟨r, hr⟩ : ∃ r, root L first = r := ⟨_, rfl⟩
  obtain ⟨p, hp⟩ : ∃ p, parentE L first c id = p := ⟨_, rfl⟩
  have he := hp
  unfold parentE par hst at he
  rw [hs, hx, hr] at he
  rw [hp]
  cases ht : there L id
  · rw [if_pos ht] at he
    subst he
    have H := Lib.hid h
    have HW := Lib.hid hW
    have HX := Lib.hid hx
    have HT := Lib.hid ht
    clear h hW hx ht
    clear hs hr hp
    go_enter Try.func67, Try.ntmps67
    go_wp2_with fail
    (with_reducible refine (node_calls H.out id).mono ?_)
    rw [HT.out]
    rintro e w1 ⟨ka, kc, rfl, _, hb1⟩
    have HB1 := Lib.hid hb1
    clear hb1
    go_wp2
    go_ret
    exact ⟨rfl, Below.step HB1.out (below1 _ _)⟩
  rw [if_neg (by rw [ht]; simp)] at he
  by_cases h1 : s = 0
  · rw [if_neg (by rw [h1]; simp)] at he
    have hs0 : slotOf L id = 0 := by rw [hs, h1]
    by_cases h2 : x.kind = 3
    · rw [if_neg (by rw [h2]; simp)] at he
      have k2 : (x.kind != 3) = false := by simp [h2]
      cases c
      · by_cases h3 : r = id
        · rw [if_pos ⟨rfl, h3⟩] at he
          subst he
          have hr' : (r == id) = true := by simpa using h3
          have H := Lib.hid h
          have HW := Lib.hid hW
          have HX := Lib.hid hx
          have HT := Lib.hid ht
          have HS := Lib.hid hs0
          have HR := Lib.hid hr
          clear h hW hx ht hs0 hr
          clear hs hp h1 h2 h3
          go_enter Try.func67, Try.ntmps67
          go_wp2_with fail
          (with_reducible refine (node_calls H.out id).mono ?_)
          rw [HT.out, HX.out]
          rintro e w1 ⟨ka, kc, rfl, _, hb1⟩
          have HB1 := Lib.hid hb1
          clear hb1
          go_wp2_with fail
          (with_reducible refine (of_calls (H.out.below (Below.step HB1.out (below1 _ _))) HW.out id).mono ?_)
          rw [HS.out]
          rintro e w2 ⟨rfl, hb2⟩
          have c0 := cell_go hb2 (cell_new (o := 0) (v := I x.kind) rfl rfl)
          have HB2 := Lib.hid hb2
          clear hb2
          go_wp2_with fail
          (with_reducible refine (root_calls (H.out.below (Below.step (Below.step HB1.out (below1 _ _)) HB2.out)) HW.out.ends first).mono ?_)
          rw [HR.out]
          rintro e w3 ⟨rfl, hb3⟩
          have HB3 := Lib.hid hb3
          clear hb3
          go_wp2
          go_ret
          exact ⟨rfl, Below.step (Below.step (Below.step HB1.out (below1 _ _)) HB2.out) HB3.out⟩
        · rw [if_neg (fun e => h3 e.2)] at he
          subst he
          have hr' : (r == id) = false := by simpa using h3
          have H := Lib.hid h
          have HW := Lib.hid hW
          have HX := Lib.hid hx
          have HT := Lib.hid ht
          have HS := Lib.hid hs0
          have HR := Lib.hid hr
          clear h hW hx ht hs0 hr
          clear hs hp h1 h2 h3
          go_enter Try.func67, Try.ntmps67
          go_wp2_with fail
          (with_reducible refine (node_calls H.out id).mono ?_)
          rw [HT.out, HX.out]
          rintro e w1 ⟨ka, kc, rfl, _, hb1⟩
          have HB1 := Lib.hid hb1
          clear hb1
          go_wp2_with fail
          (with_reducible refine (of_calls (H.out.below (Below.step HB1.out (below1 _ _))) HW.out id).mono ?_)
          rw [HS.out]
          rintro e w2 ⟨rfl, hb2⟩
          have c0 := cell_go hb2 (cell_new (o := 0) (v := I x.kind) rfl rfl)
          have c2 := cell_go hb2 (cell_new (o := 2) (v := I x.host) rfl rfl)
          have HB2 := Lib.hid hb2
          clear hb2
          go_wp2_with fail
          (with_reducible refine (root_calls (H.out.below (Below.step (Below.step HB1.out (below1 _ _)) HB2.out)) HW.out.ends first).mono ?_)
          rw [HR.out]
          rintro e w3 ⟨rfl, hb3⟩
          have d2 := cell_go hb3 c2
          have HB3 := Lib.hid hb3
          clear hb3
          go_wp2
          go_ret
          exact ⟨rfl, Below.step (Below.step (Below.step HB1.out (below1 _ _)) HB2.out) HB3.out⟩
      · rw [if_neg (fun e => by cases e.1)] at he
        subst he
        have H := Lib.hid h
        have HW := Lib.hid hW
        have HX := Lib.hid hx
        have HT := Lib.hid ht
        have HS := Lib.hid hs0
        have HR := Lib.hid hr
        clear h hW hx ht hs0 hr
        clear hs hp h1 h2
        go_enter Try.func67, Try.ntmps67
        go_wp2_with fail
        (with_reducible refine (node_calls H.out id).mono ?_)
        rw [HT.out, HX.out]
        rintro e w1 ⟨ka, kc, rfl, _, hb1⟩
        have HB1 := Lib.hid hb1
        clear hb1
        go_wp2_with fail
        (with_reducible refine (of_calls (H.out.below (Below.step HB1.out (below1 _ _))) HW.out id).mono ?_)
        rw [HS.out]
        rintro e w2 ⟨rfl, hb2⟩
        have c0 := cell_go hb2 (cell_new (o := 0) (v := I x.kind) rfl rfl)
        have c2 := cell_go hb2 (cell_new (o := 2) (v := I x.host) rfl rfl)
        have HB2 := Lib.hid hb2
        clear hb2
        go_wp2
        go_ret
        exact ⟨rfl, Below.step (Below.step HB1.out (below1 _ _)) HB2.out⟩
    · rw [if_pos (by simpa using h2)] at he
      subst he
      have k2 : (x.kind != 3) = true := by simpa using h2
      have H := Lib.hid h
      have HW := Lib.hid hW
      have HX := Lib.hid hx
      have HT := Lib.hid ht
      have HS := Lib.hid hs0
      have HR := Lib.hid hr
      clear h hW hx ht hs0 hr
      clear hs hp h1 h2
      go_enter Try.func67, Try.ntmps67
      go_wp2_with fail
      (with_reducible refine (node_calls H.out id).mono ?_)
      rw [HT.out, HX.out]
      rintro e w1 ⟨ka, kc, rfl, _, hb1⟩
      have HB1 := Lib.hid hb1
      clear hb1
      go_wp2_with fail
      (with_reducible refine (of_calls (H.out.below (Below.step HB1.out (below1 _ _))) HW.out id).mono ?_)
      rw [HS.out]
      rintro e w2 ⟨rfl, hb2⟩
      have c0 := cell_go hb2 (cell_new (o := 0) (v := I x.kind) rfl rfl)
      have c1 := cell_go hb2 (cell_new (o := 1) (v := I x.parent) rfl rfl)
      have HB2 := Lib.hid hb2
      clear hb2
      go_wp2
      go_ret
      exact ⟨rfl, Below.step (Below.step HB1.out (below1 _ _)) HB2.out⟩
  · rw [if_pos h1] at he
    subst he
    have k1 : (s != 0) = true := by simpa using h1
    have H := Lib.hid h
    have HW := Lib.hid hW
    have HX := Lib.hid hx
    have HT := Lib.hid ht
    have HS := Lib.hid hs
    clear h hW hx ht hs
    clear hp h1 hr
    go_enter Try.func67, Try.ntmps67
    go_wp2_with fail
    (with_reducible refine (node_calls H.out id).mono ?_)
    rw [HT.out, HX.out]
    rintro e w1 ⟨ka, kc, rfl, _, hb1⟩
    have HB1 := Lib.hid hb1
    clear hb1
    go_wp2_with fail
    (with_reducible refine (of_calls (H.out.below (Below.step HB1.out (below1 _ _))) HW.out id).mono ?_)
    rw [HS.out]
    rintro e w2 ⟨rfl, hb2⟩
    have HB2 := Lib.hid hb2
    clear hb2
    go_wp2
    go_ret
    exact ⟨rfl, Below.step (Below.step HB1.out (below1 _ _)) HB2.out⟩
end Go.Proofs.Ytidekbamlnpglaa

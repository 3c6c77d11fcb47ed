/-
  The walk of path.Make.
-/
import Derived.Test.YtidekbamlnpglaaXc
namespace Go.Proofs.Ytidekbamlnpglaa
open Go.RowKit Tc

theorem AddTurn.below {w w' : World} {B bo : Nat} {v v' : Value} (h : AddTurn w w' bo v v') (h1 : B ≤ bo) (h2 : ∀ q, v.ownBlock = some q → B ≤ q) (hB : B ≤ w.heap.size) : Below B w w' :=
  h.keeps.below hB fun k hk => by
    rcases hk with e | e
    · omega
    · exact h2 k e
theorem pathL_le {L : Fo} (hW : WF L) (target related : Int) (c : Bool) : (pathL L target related c).length ≤ 200 := by
  unfold pathL
  split
  · simp
  · split
    · simp
    · have h1 := steps_len (L := L) (related := related) (way L target c (parentE L target c target)) target target
      have h2 := way_length hW target c (parentE L target c target)
      have h3 := hW.len
      simp only [List.length_cons]; omega
theorem spOf_eq (L : Fo) (related tg fr cur : Int) : spOf L related tg fr cur = ⟨cur, tg, aim L related cur, closedB L cur, (slotOf L fr != 0) && closedB L (root L cur)⟩ := by
  unfold spOf
  congr 2
  by_cases e : slotOf L fr = 0 <;> simp [e]
theorem parentE_ok {L : Fo} (hW : WF L) (first : Int) (c : Bool) (id : Int) : parentE L first c id = 0 ∨ there L (parentE L first c id) = true := by
  by_cases e : parentE L first c id = 0
  · exact Or.inl e
  · exact Or.inr (parentE_there hW e).2

set_option maxRecDepth 100000 in
set_option maxHeartbeats 3200000 in
theorem pmake_calls {w : World} {hb : Nat} {S : Nat → Prop} {L : Fo} (h : FoAt w hb S L) (hW : WF L) (target related : Int) (c : Bool) :
    Calls Try.prog 70 #[ptr hb, I target, I related, .bool c] w fun e w' => ∃ v, e = .returned v ∧ OwnP w' w.heap.size v (pathL L target related c) ∧ Below w.heap.size w w' := by
  have hmf : ∀ (fn : Fn) (first cap : Array Value) (w : World), (Instr.makeFunc fn first cap).run Try.prog w = .ok (.func fn first cap) w := fun _ _ _ _ => rfl
  obtain ⟨P, hP⟩ : ∃ P, pathL L target related c = P := ⟨_, rfl⟩
  have hPl : P.length ≤ 200 := by rw [← hP]; exact pathL_le hW target related c
  have H := Lib.hid (h.narrow.mono (T := fun k => k < w.heap.size) fun _ _ h => h.2)
  rw [hP]
  have HW := Lib.hid hW
  have hP2 := hP
  unfold pathL at hP2
  cases ht : there L target
  · rw [if_pos ht] at hP2
    subst hP2
    have HT := Lib.hid ht
    clear ht
    clear h hW hP hPl
    go_enter Try.func70, Try.ntmps70
    go_wp2_with fail
    (with_reducible refine (node_calls (H.out.below (below1 _ _)) target).mono ?_)
    rw [HT.out]
    rintro e w1 ⟨ka, kc, rfl, _, hb1⟩
    have HB1 := Lib.hid hb1
    clear hb1
    go_wp2
    go_ret
    exact ⟨_, rfl, World.ownsRow_nil _ _ _ _, Below.step (Below.step (below1 _ _) HB1.out) (below1 _ _)⟩
  rw [if_neg (by rw [ht]; simp)] at hP2
  obtain ⟨x, hx⟩ : ∃ x, aim L related target = x := ⟨_, rfl⟩
  rw [hx] at hP2
  by_cases hcut : x = target ∧ related ≠ target
  · rw [if_pos hcut] at hP2
    subst hP2
    have k1 : (x == target) = true := by simpa using hcut.1
    have k2 : (related != target) = true := by simpa using hcut.2
    have HT := Lib.hid ht
    have HX := Lib.hid hx
    clear ht hx
    clear h hW hP hPl hcut
    go_enter Try.func70, Try.ntmps70
    go_wp2_with fail
    (with_reducible refine (node_calls (H.out.below (below1 _ _)) target).mono ?_)
    rw [HT.out]
    rintro e w1 ⟨ka, kc, rfl, _, hb1⟩
    have c0 := cell_go hb1 (cell_new (o := 0) (v := ptr hb) rfl rfl)
    have l0 := cell_lt c0
    have HB1 := Lib.hid (Below.step (below1 _ _) hb1)
    clear hb1
    go_wp2_with fail
    (with_reducible refine (aim_calls (H.out.below (Below.step HB1.out (below1 _ _))) HW.out related target).mono ?_)
    rw [HX.out]
    rintro e w2 ⟨rfl, hb2⟩
    have HB2 := Lib.hid hb2
    clear hb2
    go_wp2
    go_ret
    exact ⟨_, rfl, World.ownsRow_nil _ _ _ _, Below.step (Below.step HB1.out (below1 _ _)) HB2.out⟩
  rw [if_neg hcut] at hP2
  have hcase : (x == target) = false ∨ ((x == target) = true ∧ (related != target) = false) := by
    by_cases e : x = target
    · exact Or.inr ⟨by simpa using e, by
        by_cases e2 : related = target
        · simp [e2]
        · exact absurd ⟨e, e2⟩ hcut⟩
    · exact Or.inl (by simpa using e)
  have HP2 := Lib.hid hP2
  have HT := Lib.hid ht
  have HX := Lib.hid hx
  clear ht hx
  clear h hW hP hP2 hcut
  have main : ∀ (b1 : Bool), (x == target) = b1 → (b1 = true → (related != target) = false) →
      Calls Try.prog 70 #[ptr hb, I target, I related, .bool c] w fun e w' => ∃ v, e = .returned v ∧ OwnP w' w.heap.size v P ∧ Below w.heap.size w w' := by
    intro b1 hb1e hb2e
    have hb2' : b1 = false ∨ (b1 = true ∧ (related != target) = false) := by
      cases b1
      · exact Or.inl rfl
      · exact Or.inr ⟨rfl, hb2e rfl⟩
    clear hcase hb2e
    go_enter Try.func70, Try.ntmps70
    go_wp2_with fail
    (with_reducible refine (node_calls (H.out.below (below1 _ _)) target).mono ?_)
    rw [HT.out]
    rintro e w1 ⟨ka, kc, rfl, _, hb1⟩
    have c0 := cell_go hb1 (cell_new (o := 0) (v := ptr hb) rfl rfl)
    have l0 := cell_lt c0
    have HB1 := Lib.hid (Below.step (below1 _ _) hb1)
    clear hb1
    go_wp2_with fail
    (with_reducible refine (aim_calls (H.out.below (Below.step HB1.out (below1 _ _))) HW.out related target).mono ?_)
    rw [HX.out]
    rintro e w2 ⟨rfl, hb2⟩
    have d0 := cell_go hb2 (cell_alloc c0)
    have ld := cell_lt d0
    have HB2 := Lib.hid (Below.step (Below.step HB1.out (below1 _ _)) hb2)
    clear hb2 c0
    rcases hb2' with hz | ⟨hz, hz2⟩
    all_goals subst hz
    all_goals
      have hst0 : AddSt (w2.alloc (.cells #[.slice none 0 0] 65)) hb L w.heap.size w2.heap.size [] (.slice none 0 0) :=
        ⟨H.out.below (below_alloc HB2.out), cell_alloc d0, alloc_top _ _ _, ld, World.ownsRow_nil _ _ _ _⟩
      have HS0 := Lib.hid hst0
      clear hst0
      go_wp2_with fail
      (with_reducible refine (add_calls HS0.out HW.out (by simp) target target x false).mono ?_)
      rintro e w3 ⟨v3, rfl, hst3, htu3⟩
      have e0 := hst3.cf
      have le0 := cell_lt e0
      have HS3 := Lib.hid hst3
      have HT3 := Lib.hid htu3
      have HP3 := Lib.hid (show P = ([] ++ [(⟨target, target, x, closedB L target, false && closedB L (root L target)⟩ : Sp)]) ++ steps L related target target (way L target c (parentE L target c target)) from HP2.out.symm)
      have hok := parentE_ok HW.out target c target
      obtain ⟨p0, hp0⟩ : ∃ p0, parentE L target c target = p0 := ⟨_, rfl⟩
      rw [hp0] at hok HP3
      have HP0 := Lib.hid hp0
      clear hst3 htu3 hp0
      go_wp2_with fail
      (with_reducible refine (parent_calls HS3.out.fo HW.out target target c).mono ?_)
      rw [HP0.out]
      rintro e w4 ⟨rfl, hb4⟩
      have HS4 := Lib.hid (HS3.out.below hb4)
      have HT4 := Lib.hid (HT3.out.trans (AddTurn.refl hb4))
      clear hb4 HS3 HT3 HS0 e0 le0 d0 ld
      go_wp2
      go_loopw [14, 15, 16] (fun s14 s15 s16 wr => ∃ (tt fr cur : Int) (acc : List Sp) (vv : Value), s14 = I tt ∧ s15 = I fr ∧ s16 = I cur ∧ AddSt wr hb L w.heap.size w2.heap.size acc vv ∧ AddTurn (w2.alloc (.cells #[.slice none 0 0] 65)) wr w2.heap.size (.slice none 0 0) vv ∧
        P = acc ++ steps L related tt fr (way L target c cur) ∧ (cur = 0 ∨ there L cur = true)) (fun _ _ s16 _ => (way L target c (intOf s16)).length)
      case atStart => exact ⟨target, target, p0, _, v3, rfl, rfl, rfl, HS4.out, HT4.out, HP3.out, hok⟩
      case round =>
        obtain ⟨tt, fr, cur, acc, vv, rfl, rfl, rfl, hst, htu, hp, hcur⟩ := hrel
        clear HS4 HT4 HP3 HP0 hok
        have HS := Lib.hid hst
        have HTU := Lib.hid htu
        have e0 := hst.cf
        have le0 := cell_lt e0
        have hvv := row_shape hst.own
        have eo := cell_of_one hst.ho
        have leo := cell_lt eo
        clear hst htu
        by_cases hz : cur = 0
        · subst hz
          have hfin : P = acc := by rw [hp, way_not (there_zero L)]; simp [steps]
          clear hp hcur
          obtain ⟨va, vc, rfl⟩ := hvv
          have HFIN := Lib.hid hfin
          clear hfin
          go_wp2
          go_ret
          refine ⟨_, rfl, ?_, ?_⟩
          · rw [HFIN.out]; exact ownsRow_base HS.out.own (by have := HB2.out.size; omega)
          · exact (below_alloc HB2.out).trans (HTU.out.below HB2.out.size (fun q e => by cases e) (by have := HB2.out.size; simp; omega))
        · have htc : there L cur = true := hcur.resolve_left hz
          obtain ⟨nx, hnxe⟩ : ∃ nx, parentE L target c cur = nx := ⟨_, rfl⟩
          have hway : way L target c cur = cur :: way L target c nx := by rw [way_cons HW.out htc, hnxe]
          have hnx : nx = 0 ∨ there L nx = true := by rw [← hnxe]; exact parentE_ok HW.out target c cur
          have halen : acc.length ≤ 1000 := by
            have := congrArg List.length hp
            rw [List.length_append] at this; omega
          obtain ⟨s, hsl⟩ : ∃ s, slotOf L fr = s := ⟨_, rfl⟩
          obtain ⟨y, hy⟩ : ∃ y, aim L related cur = y := ⟨_, rfl⟩
          obtain ⟨rt, hrt⟩ : ∃ rt, root L tt = rt := ⟨_, rfl⟩
          obtain ⟨hd, hhd⟩ : ∃ hd, decide (rt ∈ over L cur) = hd := ⟨_, rfl⟩
          have hz1 : (cur != 0) = true := by simpa using hz
          rw [hway] at hp
          unfold steps at hp
          rw [hrt, hy] at hp
          have HWAY := Lib.hid hway
          have HNX := Lib.hid hnxe
          have HSL := Lib.hid hsl
          have HY := Lib.hid hy
          have HRT := Lib.hid hrt
          have HAL := Lib.hid halen
          have HHD := Lib.hid hhd
          have HPP := Lib.hid hp
          clear hway hnxe hsl hy hrt halen hcur htc hz hhd hp
          obtain ⟨va, vc, rfl⟩ := hvv
          go_wp2_with fail
          (with_reducible refine (of_calls HS.out.fo HW.out fr).mono ?_)
          rw [HSL.out]
          rintro e w5 ⟨rfl, hb5⟩
          have f0 := cell_go hb5 e0
          have lf0 := cell_lt f0
          have HB5 := Lib.hid hb5
          clear hb5
          go_wp2_with fail
          (with_reducible refine (aim_calls (HS.out.fo.below HB5.out) HW.out related cur).mono ?_)
          rw [HY.out]
          rintro e w6 ⟨rfl, hb6⟩
          have g0 := cell_go hb6 f0
          have lg0 := cell_lt g0
          have HB56 := Lib.hid (Below.step HB5.out hb6)
          have HFO6 := Lib.hid (HS.out.fo.below HB56.out)
          clear hb6 f0 lf0 e0 le0 eo leo
          go_wp2_with fail
          go_region_held3 (fun wx => wx.cell? ⟨w.heap.size, 0, none⟩ = some (ptr hb) ∧ Below w6.heap.size w6 wx) (((try dsimp only); (repeat' apply And.intro) <;> (repeat (first | (with_reducible assumption) | (with_reducible exact Below.refl _ _) | (with_reducible refine cell_set ?_ (by omega)) | (with_reducible refine cell_new (by simp) rfl) | (with_reducible refine cell_alloc ?_) | (with_reducible refine cell_drew ?_) | (with_reducible refine below_set ?_ (by omega)) | (with_reducible refine below_alloc ?_) | (with_reducible refine below_drew ?_) | fail))))
            (first
              | (go_at_call 27; (with_reducible refine (root_calls (HFO6.out.below (‹_ ∧ Below _ _ _›).2) HW.out.ends tt).mono ?_); rw [HRT.out]; rintro e w61 ⟨rfl, hb61⟩; have B61 := Below.step (‹_ ∧ Below _ _ _›).2 hb61; have e61 := cell_go hb61 (‹_ ∧ Below _ _ _›).1; clear hb61)
              | (go_at_call 24; (with_reducible refine (holds_calls (HFO6.out.below (‹_ ∧ Below _ _ _›).2) HW.out rt cur).mono ?_); rw [HHD.out]; rintro e w62 ⟨rfl, hb62⟩; have B62 := Below.step (‹_ ∧ Below _ _ _›).2 hb62; have e62 := cell_go hb62 (‹_ ∧ Below _ _ _›).1; clear hb62))
          have HB6 := Lib.hid (Below.step HB56.out B62)
          have HS6 := Lib.hid (HS.out.below HB6.out)
          have eo6 := cell_of_one HS6.out.ho
          have leo6 := cell_lt eo6
          have le62 := cell_lt e62
          clear B61 B62 e61 g0 lg0
          cases hd
          · have hne := of_decide_eq_false HHD.out
            by_cases hcy : cur = y
            · have hfin : P = acc := by
                have := HPP.out
                rw [if_neg hne, if_pos hcy] at this
                simpa using this
              have hcy1 : (cur == y) = true := by simpa using hcy
              have HFIN := Lib.hid hfin
              clear hfin hne hcy
              go_wp2
              go_ret
              refine ⟨_, rfl, ?_, ?_⟩
              · rw [HFIN.out]; exact ownsRow_base HS6.out.own (by have := HB2.out.size; omega)
              · exact (below_alloc HB2.out).trans ((HTU.out.trans (AddTurn.refl HB6.out)).below HB2.out.size (fun q e => by cases e) (by have := HB2.out.size; simp; omega))
            · have hcy1 : (cur == y) = false := by simpa using hcy
              have hrest : P = (acc ++ [spOf L related cur fr cur]) ++ steps L related cur cur (way L target c nx) := by
                have := HPP.out
                rw [if_neg hne, if_neg hcy] at this
                rw [this, List.append_assoc]; rfl
              have HREST := Lib.hid hrest
              clear hrest hne hcy
              go_wp2_with fail
              (with_reducible refine (add_calls HS6.out HW.out HAL.out cur cur y (s != 0)).mono ?_)
              rintro e w7 ⟨v7, rfl, hst7, htu7⟩
              have k0 := hst7.cf
              have lk0 := cell_lt k0
              have HS7 := Lib.hid hst7
              have HT7 := Lib.hid ((HTU.out.trans (AddTurn.refl HB6.out)).trans htu7)
              clear hst7 htu7
              go_wp2_with fail
              (with_reducible refine (parent_calls HS7.out.fo HW.out cur target c).mono ?_)
              rw [HNX.out]
              rintro e w8 ⟨rfl, hb8⟩
              have HS8 := Lib.hid (HS7.out.below hb8)
              have HT8 := Lib.hid (HT7.out.trans (AddTurn.refl hb8))
              clear hb8
              go_wp2
              go_roundw
              case rel => exact ⟨cur, cur, nx, _, v7, rfl, rfl, rfl, HS8.out, HT8.out, by rw [← HSL.out, ← HY.out, ← spOf_eq]; exact HREST.out, hnx⟩
              case measure => show (way L target c nx).length < (way L target c cur).length; rw [HWAY.out]; simp
          · have hrest : P = (acc ++ [spOf L related 0 fr cur]) ++ steps L related tt cur (way L target c nx) := by
              have := HPP.out
              rw [if_pos (of_decide_eq_true HHD.out)] at this
              rw [this, List.append_assoc]; rfl
            have HREST := Lib.hid hrest
            clear hrest
            go_wp2_with fail
            (with_reducible refine (add_calls HS6.out HW.out HAL.out cur 0 y (s != 0)).mono ?_)
            rintro e w7 ⟨v7, rfl, hst7, htu7⟩
            have k0 := hst7.cf
            have lk0 := cell_lt k0
            have HS7 := Lib.hid hst7
            have HT7 := Lib.hid ((HTU.out.trans (AddTurn.refl HB6.out)).trans htu7)
            clear hst7 htu7
            go_wp2_with fail
            (with_reducible refine (parent_calls HS7.out.fo HW.out cur target c).mono ?_)
            rw [HNX.out]
            rintro e w8 ⟨rfl, hb8⟩
            have HS8 := Lib.hid (HS7.out.below hb8)
            have HT8 := Lib.hid (HT7.out.trans (AddTurn.refl hb8))
            clear hb8
            go_wp2
            go_roundw
            case rel => exact ⟨tt, cur, nx, _, v7, rfl, rfl, rfl, HS8.out, HT8.out, by rw [← HSL.out, ← HY.out, ← spOf_eq]; exact HREST.out, hnx⟩
            case measure => show (way L target c nx).length < (way L target c cur).length; rw [HWAY.out]; simp
  rcases hcase with k1 | ⟨k1, k2⟩
  · exact main false k1 (fun e => by cases e)
  · exact main true k1 (fun _ => k2)
end Go.Proofs.Ytidekbamlnpglaa

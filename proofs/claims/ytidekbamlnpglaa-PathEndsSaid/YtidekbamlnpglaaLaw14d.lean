/-
  The walk of the law PathEnds.
-/
import Derived.Test.YtidekbamlnpglaaLaw14a
import Derived.Test.YtidekbamlnpglaaHv
import Derived.IntWalk
namespace Go.Proofs.Ytidekbamlnpglaa.K14
open Go.RowKit Tc

set_option maxRecDepth 100000 in
set_option maxHeartbeats 3200000 in
theorem PathEnds_walk {w : World} {v : Value} {acts : List Tc.Act} (h : ActsAt w v acts) (target related : Int) (c : Bool) :
    Calls Try.prog 15 #[v, I target, I related, .bool c] w fun e w' => e = .returned (.bool true) ∧ Below w.heap.size w w' := by
  have HA := Lib.hid h
  clear h
  go_enter Try.func15, Try.ntmps15
  go_wp2_with fail
  refine (awake_calls w).mono ?_
  rintro e w1 ⟨rfl, hb1⟩
  have HB1 := Lib.hid hb1
  clear hb1
  go_wp2_with fail
  refine (great_calls (HA.out.below HB1.out)).mono ?_
  obtain ⟨x, hx⟩ : ∃ x, fewB acts = x := ⟨_, rfl⟩
  rw [hx]
  rintro e w2 ⟨rfl, hb2⟩
  have HFW := Lib.hid hx
  have HB2 := Lib.hid hb2
  clear hb2 hx
  cases x
  · go_wp2
    go_ret
    exact ⟨rfl, Below.step HB1.out HB2.out⟩
  go_wp2_with fail
  refine (made_calls ((HA.out.below HB1.out).below HB2.out) HFW.out).mono ?_
  obtain ⟨L, hL⟩ : ∃ L, mades acts = L := ⟨_, rfl⟩
  have hW := WF.mades acts
  rw [hL] at hW ⊢
  have HL := Lib.hid hL
  rintro e w3 ⟨hb, rfl, hfo, hb3⟩
  have H := Lib.hid (St.start HB1.out HB2.out hfo hb3 hW)
  clear hL hW hfo hb3 HA HB1 HB2 HFW
  go_wp2_with fail
  (with_reducible refine (pmake_calls H.out.fo H.out.wf target 0 c).mono ?_)
  obtain ⟨P, hP⟩ : ∃ P, pathL L target 0 c = P := ⟨_, rfl⟩
  obtain ⟨Q, hQ⟩ : ∃ Q, pathL L target related c = Q := ⟨_, rfl⟩
  have hpl : P.length ≤ 200 := by rw [← hP]; exact pathL_le H.out.wf target 0 c
  have hql : Q.length ≤ 200 := by rw [← hQ]; exact pathL_le H.out.wf target related c
  rw [hP]
  have HP := Lib.hid hP
  have HQ := Lib.hid hQ
  clear hP hQ
  rintro e w4 ⟨pv, rfl, hown, hb4⟩
  have hst := hown.steps
  obtain ⟨ao, cap, rfl, hc1, hc2, hsl⟩ := hst.open
  obtain ⟨n, hn⟩ : ∃ n, P.length = n := ⟨_, rfl⟩
  have HN := Lib.hid hn
  rw [hn] at hst hc1 hsl hpl ⊢
  unfold maxLen at hc2
  have HPS := Lib.hid hst
  have HSL := Lib.hid hsl
  have H4 := Lib.hid (H.out.next hb4)
  clear H hb4
  have H := H4
  clear H4
  clear hn hst hsl hown
  go_wp2_with fail
  (with_reducible refine (pmake_calls H.out.fo H.out.wf target related c).mono ?_)
  rw [HQ.out]
  rintro e w5 ⟨qv, rfl, hown, hb5⟩
  have hst := hown.steps
  obtain ⟨ao2, cap2, rfl, hd1, hd2, hsl⟩ := hst.open
  obtain ⟨m, hm⟩ : ∃ m, Q.length = m := ⟨_, rfl⟩
  have HM := Lib.hid hm
  rw [hm] at hst hd1 hsl hql ⊢
  unfold maxLen at hd2
  have HQS := Lib.hid hst
  have HSL2 := Lib.hid hsl
  have HPS5 := Lib.hid (HPS.out.below hb5)
  have H5 := Lib.hid (H.out.next hb5)
  clear H hb5
  have H := H5
  clear H5
  clear hm hst hsl hown HPS
  go_wp2_with fail
  (with_reducible refine (node_calls H.out.fo target).mono ?_)
  obtain ⟨x, hx⟩ : ∃ x, nd L target = x := ⟨_, rfl⟩
  rw [hx]
  clear hx
  cases ht : there L target
  · have hp0 : P = [] := by rw [← HP.out]; exact path_not ht
    have hq0 : Q = [] := by rw [← HQ.out]; exact path_not ht
    have hn0 : n = 0 := by rw [← HN.out, hp0]; rfl
    have hm0 : m = 0 := by rw [← HM.out, hq0]; rfl
    clear ht hp0 hq0
    subst hn0 hm0
    rintro e w6 ⟨ka, kc, rfl, _, hb6⟩
    have H6 := Lib.hid (H.out.next hb6)
    clear H hb6
    have H := H6
    clear H6
    go_wp2
    go_ret
    exact ⟨rfl, (H.out.next (below1 _ _)).bel⟩
  rintro e w6 ⟨ka, kc, rfl, _, hb6⟩
  have HPS6 := Lib.hid (HPS5.out.below hb6)
  have HQS6 := Lib.hid (HQS.out.below hb6)
  have H6 := Lib.hid (H.out.next hb6)
  clear H hb6
  have H := H6
  clear H6
  have hpos := path_pos H.out.wf (c := c) ht
  have hpre := path_prefix (L := L) (related := related) (c := c) ht
  have hrel := (path_zero H.out.wf (c := c) ht).2
  rw [HP.out] at hpos hpre hrel
  rw [HQ.out] at hpre
  have hmn : m ≤ n := by
    have := hpre.length_le
    rw [List.length_map, HN.out, HM.out] at this; exact this
  have hstrip : ∀ (i : Nat) (x y : Sp), Q[i]? = some x → P[i]? = some y → y = strip x := fun i x y hx hy => by
    obtain ⟨t, e⟩ := hpre
    rw [← e, List.getElem?_append_left (by rw [List.length_map]; exact (List.getElem?_eq_some_iff.1 hx).1), List.getElem?_map, hx] at hy
    exact (Option.some.inj hy).symm
  obtain ⟨k, hk⟩ : ∃ k, n = k + 1 := ⟨n - 1, by rw [HN.out] at hpos; omega⟩
  have hkl : k < P.length := by rw [HN.out]; omega
  obtain ⟨z, hz⟩ : ∃ z, P[k]'hkl = z := ⟨_, rfl⟩
  have hzs : P[k]? = some z := by rw [List.getElem?_eq_getElem hkl, hz]
  have hlast := path_last H.out.wf (c := c) ht (n := k) (by rw [HP.out, HN.out, hk]) (by rw [HP.out]; exact hzs)
  obtain ⟨b, off, e⟩ := HSL.out (by omega)
  subst e
  have hsz := HPS6.out.at k hkl
  rw [hz] at hsz
  have c0 := cell_alloc (ob := .cells #[I x.kind, I x.parent, I x.host, I x.shadow, I x.mode, .bool x.slot, .string x.name, .string x.want, .slice ka x.kids.length kc] 29) hsz.c0
  have c00 := hsz.c0
  have lb := cell_lt c00
  have HL2 := Lib.hid hlast
  have HST := Lib.hid hstrip
  have HREL := Lib.hid hrel
  have hmn1 : decide ((m : Int) > (n : Int)) = false := decide_eq_false (by omega)
  have hmn2 : decide (n < m) = false := decide_eq_false (by omega)
  have hn1 : ((n : Int) == 0) = false := by simp; omega
  have hsub : IntKind.i64.wrap ((n : Int) - 1) = (k : Int) := by rw [IntWalk.i64_in _ (by omega)]; omega
  have hk0 : (0 : Int) ≤ (k : Int) := by omega
  have hk1 : (k : Int) < (n : Int) := by omega
  have HKN := Lib.hid hk
  clear hpos hpre hrel hstrip hkl hz hzs hlast hsz ht hk HPS5 HQS
  go_wp2_with fail
  (with_reducible refine (parent_calls (H.out.next (below1 _ _)).fo H.out.wf z.node target c).mono ?_)
  rw [HL2.out]
  rintro e w7 ⟨rfl, hb7⟩
  have HPS7 := Lib.hid ((HPS6.out.below (below1 _ _)).below hb7)
  have HQS7 := Lib.hid ((HQS6.out.below (below1 _ _)).below hb7)
  have H7 := Lib.hid ((H.out.next (below1 _ _)).next hb7)
  clear H hb7
  have H := H7
  clear H7
  clear HPS6 HQS6 c0 c00 lb
  go_wp2
  go_loopw [14] (fun s14 wr => ∃ q : Nat, s14 = I q ∧ q ≤ n ∧ St w wr hb L ∧ StepsAt wr (.slice (some ⟨b, off, none⟩) n cap) P ∧ StepsAt wr (.slice ao2 m cap2) Q) (fun s14 _ => n - (intOf s14).toNat)
  case atStart => exact ⟨0, rfl, by omega, H.out, HPS7.out, HQS7.out⟩
  case round =>
    obtain ⟨q, rfl, hq, hst, hps, hqs⟩ := hrel
    clear H HPS7 HQS7
    have H := Lib.hid hst
    have HPS := Lib.hid hps
    have HQS := Lib.hid hqs
    clear hst hps hqs
    by_cases hlt : q < n
    · have hlt' : q < P.length := by rw [HN.out]; exact hlt
      have hsp := HPS.out.at q hlt'
      have hr0 := HREL.out (P[q]'hlt') (List.getElem_mem hlt')
      have c2 := hsp.c2
      rw [hr0] at c2
      have hb0 : (0 : Int) ≤ (q : Int) := by omega
      have hb1 : (q : Int) < (n : Int) := by omega
      clear hsp hr0 hlt'
      go_wp2
      go_roundw
      case rel => exact ⟨q + 1, by go_num, by omega, H.out, HPS.out, HQS.out⟩
      case measure => simp [intOf]; omega
    · have e : q = n := by omega
      subst e
      go_wp2
      go_loopw [15] (fun s15 wi => ∃ i : Nat, s15 = I i ∧ i ≤ m ∧ St w wi hb L ∧ StepsAt wi (.slice (some ⟨b, off, none⟩) q cap) P ∧ StepsAt wi (.slice ao2 m cap2) Q) (fun s15 _ => m - (intOf s15).toNat)
      case atStart => exact ⟨0, rfl, by omega, H.out, HPS.out, HQS.out⟩
      case round =>
        obtain ⟨i, rfl, hi, hst, hps, hqs⟩ := hrel
        clear H HPS HQS
        have H := Lib.hid hst
        have HPS := Lib.hid hps
        have HQS := Lib.hid hqs
        clear hst hps hqs
        by_cases hlt : i < m
        · obtain ⟨b2, off2, e⟩ := HSL2.out (by omega)
          subst e
          have hl1 : i < Q.length := by rw [HM.out]; exact hlt
          have hl2 : i < P.length := by rw [HN.out]; omega
          have s1 := HQS.out.at i hl1
          have s2 := HPS.out.at i hl2
          have he := HST.out i _ _ (List.getElem?_eq_getElem hl1) (List.getElem?_eq_getElem hl2)
          rw [he] at s2
          obtain ⟨y, hy⟩ : ∃ y, Q[i]'hl1 = y := ⟨_, rfl⟩
          rw [hy] at s1 s2
          obtain ⟨a0, a1, a2, a3, a4⟩ := s1
          obtain ⟨d0, d1, d2, d3, d4⟩ := s2
          obtain ⟨yn, yt, yr, yc, ys⟩ := y
          simp only [strip] at d0 d1 d2 d3 d4
          have la := cell_lt a0
          have ld := cell_lt d0
          have hb0 : (0 : Int) ≤ (i : Int) := by omega
          have hb1 : (i : Int) < (m : Int) := by omega
          have hb2 : (i : Int) < (q : Int) := by omega
          clear he hy hl1 hl2
          go_wp2
          go_quiet (fail)
          go_wp2
          go_roundw
          case rel => exact ⟨i + 1, by go_num, by omega, H.out.next (below_drewN (below1 _ _) _), HPS.out.below (below_drewN (below1 _ _) _), HQS.out.below (below_drewN (below1 _ _) _)⟩
          case measure => simp [intOf]; omega
        · have e : i = m := by omega
          subst e
          go_wp2
          go_ret
          exact ⟨rfl, H.out.bel⟩
end Go.Proofs.Ytidekbamlnpglaa.K14

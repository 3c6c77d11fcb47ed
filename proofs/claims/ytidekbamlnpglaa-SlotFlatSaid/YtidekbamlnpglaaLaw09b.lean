/-
  The walk of the law SlotFlat.
-/
import Derived.Test.YtidekbamlnpglaaLaw09a
namespace Go.Proofs.Ytidekbamlnpglaa.K09
open Go.RowKit Tc

set_option maxRecDepth 100000 in
set_option maxHeartbeats 800000 in
theorem SlotFlat_walk {w : World} {v : Value} {acts : List Tc.Act} (h : ActsAt w v acts) (id : Int) :
    Calls Try.prog 8 #[v, I id] w fun e w' => e = .returned (.bool true) ∧ Below w.heap.size w w' := by
  have HA := Lib.hid h
  clear h
  go_enter Try.func8, Try.ntmps8
  go_wp2_with fail
  refine (awake_calls w).mono ?_
  rintro e w1 ⟨rfl, hb1⟩
  have HB1 := Lib.hid hb1
  clear hb1
  go_wp2_with fail
  refine (great_calls (HA.out.below HB1.out)).mono ?_
  obtain ⟨x, hx⟩ : ∃ x, fewB acts = x := ⟨_, rfl⟩
  rw [hx]
  rintro e w2 ⟨rfl, hb2⟩
  have HFW := Lib.hid hx
  have HB2 := Lib.hid hb2
  clear hb2 hx
  cases x
  · go_wp2
    go_ret
    exact ⟨rfl, Below.step HB1.out HB2.out⟩
  go_wp2_with fail
  refine (made_calls ((HA.out.below HB1.out).below HB2.out) HFW.out).mono ?_
  obtain ⟨L, hL⟩ : ∃ L, mades acts = L := ⟨_, rfl⟩
  have hW := WF.mades acts
  rw [hL] at hW ⊢
  have HL := Lib.hid hL
  rintro e w3 ⟨hb, rfl, hfo, hb3⟩
  have H := Lib.hid (St.start HB1.out HB2.out hfo hb3 hW)
  clear hL hW hfo hb3 HA HB1 HB2 HFW
  go_wp2_with fail
  refine (flat_calls H.out.wf _ id (Nat.le_refl _) _ H.out.fo).mono ?_
  obtain ⟨l, hl⟩ : ∃ l, flat L id = l := ⟨_, rfl⟩
  have hml : ∀ y, y ∈ l → there L y = true ∧ (nd L y).kind = 2 ∧ shownB L y = false ∧ (nd L id).slot = true := fun y hy => mem_flat H.out.wf _ id y (Nat.le_refl _) (hl ▸ hy)
  rw [hl]
  have HML := Lib.hid hml
  clear hl hml
  rintro e w4 ⟨lv, rfl, hown, hb4⟩
  have hint := hown.ints
  obtain ⟨ao, cap, rfl, hc1, hc2, hsl⟩ := hint.open
  obtain ⟨n, hn⟩ : ∃ n, l.length = n := ⟨_, rfl⟩
  have HN := Lib.hid hn
  rw [hn] at hint hc1 hsl ⊢
  have HI := Lib.hid hint
  have HSL := Lib.hid hsl
  unfold maxLen at hc2
  have H4 := Lib.hid (H.out.next hb4)
  clear H hb4
  have H := H4
  clear H4
  clear hn hint hsl hown
  go_wp2_with fail
  refine (node_calls H.out.fo id).mono ?_
  obtain ⟨x, hx⟩ : ∃ x, nd L id = x := ⟨_, rfl⟩
  have hxs : 0 < n → x.slot = true := fun hp => by
    rw [← hx]
    exact (HML.out _ (getD_mem (l := l) (k := 0) (by rw [HN.out]; exact hp))).2.2.2
  rw [hx]
  rintro e w5 ⟨ka5, kc5, rfl, _, hb5⟩
  have HI5 := Lib.hid (HI.out.below hb5)
  have H5 := Lib.hid (H.out.next hb5)
  clear H hb5
  have H := H5
  clear H5
  clear hx
  have hcase : n = 0 ∨ (0 < n ∧ x.slot = true) := by
    by_cases hp : 0 < n
    · exact Or.inr ⟨hp, hxs hp⟩
    · exact Or.inl (by omega)
  clear hxs
  rcases hcase with hz | ⟨hp, hs⟩
  · subst hz
    go_wp2
    go_loopw [9] (fun c wr => c = I 0 ∧ St w wr hb L) (fun _ _ => 0)
    case atStart => exact ⟨rfl, H.out.next (below1 _ _)⟩
    case round =>
      obtain ⟨rfl, hst⟩ := hrel
      go_wp2
      go_ret
      exact ⟨rfl, hst.bel⟩
  go_wp2
  have H0 := Lib.hid (H.out.next (below1 w5 (.cells #[I x.kind, I x.parent, I x.host, I x.shadow, I x.mode, .bool x.slot, .string x.name, .string x.want, .slice ka5 x.kids.length kc5] 29)))
  have HI0 := Lib.hid (HI5.out.below (below1 w5 (.cells #[I x.kind, I x.parent, I x.host, I x.shadow, I x.mode, .bool x.slot, .string x.name, .string x.want, .slice ka5 x.kids.length kc5] 29)))
  rw [hs] at H0 HI0
  clear H HI HI5
  go_loopw [9] (fun c wr => ∃ q : Nat, c = I q ∧ q ≤ n ∧ St w wr hb L ∧ IntsAt wr (.slice ao n cap) l) (fun c _ => n - (intOf c).toNat)
  case atStart => exact ⟨0, rfl, by omega, H0.out, HI0.out⟩
  case round =>
    obtain ⟨q, rfl, hq, hst, hin⟩ := hrel
    clear H0 HI0
    have H := Lib.hid hst
    have HI := Lib.hid hin
    clear hst hin
    by_cases hlt : q < n
    · obtain ⟨bb, off, e⟩ := HSL.out (by omega)
      subst e
      have hcell := HI.out.cellAt q (by rw [HN.out]; omega)
      obtain ⟨y, hy⟩ : ∃ y, l.getD q 0 = y := ⟨_, rfl⟩
      rw [hy] at hcell
      have hym : y ∈ l := by rw [← hy]; exact getD_mem (by rw [HN.out]; exact hlt)
      obtain ⟨t1, t2, t3, _⟩ := HML.out y hym
      have t4 := (root_there H.out.wf t1).1
      obtain ⟨r, hr⟩ : ∃ r, root L y = r := ⟨_, rfl⟩
      obtain ⟨m, hm⟩ : ∃ m, nd L y = m := ⟨_, rfl⟩
      obtain ⟨z, hz⟩ : ∃ z, nd L r = z := ⟨_, rfl⟩
      rw [hm] at t2
      rw [hr] at t4
      have hk : (m.kind != 2) = false := by simp [t2]
      have hsh : m.slot = false ∨ (m.slot = true ∧ (z.kind == 3) = false) := by
        unfold shownB at t3
        rw [hm, hr, hz] at t3
        cases hms : m.slot
        · exact Or.inl rfl
        · rw [hms] at t3
          exact Or.inr ⟨rfl, by simpa using t3⟩
      have T1 := Lib.hid t1
      have T4 := Lib.hid t4
      have HY := Lib.hid hy
      have HR := Lib.hid hr
      have HM := Lib.hid hm
      have HZ := Lib.hid hz
      clear t1 t2 t3 t4 hr hm hz hy hym
      go_wp2_with fail
      refine (node_calls H.out.fo y).mono ?_
      rw [T1.out, HM.out]
      rintro e w6 ⟨ka6, kc6, rfl, _, hb6⟩
      have HI6 := Lib.hid (HI.out.below hb6)
      have hc6 := HI6.out.cellAt q (by rw [HN.out]; omega)
      rw [HY.out] at hc6
      have lc6 := cell_lt hc6
      have H6 := Lib.hid (H.out.next hb6)
      clear H hb6
      have H := H6
      clear H6
      clear HI hcell
      go_wp2_with fail
      refine (root_calls (H.out.next (below1 _ _)).fo H.out.wf.ends y).mono ?_
      rw [HR.out]
      rintro e w7 ⟨rfl, hb7⟩
      have e0 := cell_go hb7 (cell_new (o := 0) (v := I m.kind) rfl rfl)
      have e5 := cell_go hb7 (cell_new (o := 5) (v := .bool m.slot) rfl rfl)
      have HI7 := Lib.hid ((HI6.out.below (below1 _ _)).below hb7)
      have H7 := Lib.hid ((H.out.next (below1 _ _)).next hb7)
      clear H hb7
      have H := H7
      clear H7
      go_wp2_with fail
      refine (node_calls H.out.fo r).mono ?_
      rw [HZ.out, T4.out]
      rintro e w8 ⟨ka8, kc8, rfl, _, hb8⟩
      have f0 := cell_go hb8 e0
      have f5 := cell_go hb8 e5
      have l8 := cell_lt f0
      have HI8 := Lib.hid ((HI7.out.below hb8))
      have H8 := Lib.hid (H.out.next hb8)
      clear H hb8
      have H := H8
      clear H8
      clear e0 e5 HI6 HI7
      rcases hsh with hms | ⟨hms, hz3⟩
      all_goals
        rw [hms] at f5
        go_wp2
        go_roundw
        case rel => exact ⟨q + 1, by go_num, by omega, H.out.next (below1 _ _), HI8.out.below (below1 _ _)⟩
        case measure => simp [intOf]; omega
    · have e : q = n := by omega
      subst e
      go_wp2
      go_ret
      exact ⟨rfl, H.out.bel⟩
end Go.Proofs.Ytidekbamlnpglaa.K09

/-
  The walk of the law SlotOnce.
-/
import Derived.Test.YtidekbamlnpglaaLaw09a
import Derived.Test.YtidekbamlnpglaaPv
import Derived.IntWalk
namespace Go.Proofs.Ytidekbamlnpglaa.K09
open Go.RowKit Tc

set_option maxRecDepth 100000 in
set_option maxHeartbeats 1600000 in
theorem SlotOnce_walk {w : World} {v : Value} {acts : List Tc.Act} (h : ActsAt w v acts) (id : Int) :
    Calls Try.prog 6 #[v, I id] w fun e w' => e = .returned (.bool true) ∧ Below w.heap.size w w' := by
  have HA := Lib.hid h
  clear h
  go_enter Try.func6, Try.ntmps6
  go_wp2_with fail
  refine (awake_calls w).mono ?_
  rintro e w1 ⟨rfl, hb1⟩
  have HB1 := Lib.hid hb1
  clear hb1
  go_wp2_with fail
  refine (great_calls (HA.out.below HB1.out)).mono ?_
  obtain ⟨x, hx⟩ : ∃ x, fewB acts = x := ⟨_, rfl⟩
  rw [hx]
  rintro e w2 ⟨rfl, hb2⟩
  have HFW := Lib.hid hx
  have HB2 := Lib.hid hb2
  clear hb2 hx
  cases x
  · go_wp2
    go_ret
    exact ⟨rfl, Below.step HB1.out HB2.out⟩
  go_wp2_with fail
  refine (made_calls ((HA.out.below HB1.out).below HB2.out) HFW.out).mono ?_
  obtain ⟨L, hL⟩ : ∃ L, mades acts = L := ⟨_, rfl⟩
  have hW := WF.mades acts
  rw [hL] at hW ⊢
  have HL := Lib.hid hL
  rintro e w3 ⟨hb, rfl, hfo, hb3⟩
  have H := Lib.hid (St.start HB1.out HB2.out hfo hb3 hW)
  clear hL hW hfo hb3 HA HB1 HB2 HFW
  go_wp2_with fail
  refine (of_calls H.out.fo H.out.wf id).mono ?_
  obtain ⟨mine, hmine⟩ : ∃ mine, slotOf L id = mine := ⟨_, rfl⟩
  rw [hmine]
  have HMI := Lib.hid hmine
  clear hmine
  rintro e w4 ⟨rfl, hb4⟩
  have H4 := Lib.hid (H.out.next hb4)
  clear H hb4
  have H := H4
  clear H4
  go_wp2
  have H0 := Lib.hid H.out
  clear H
  have hlen := H0.out.fo.few
  go_loopw [7] (fun c wr => ∃ s : Nat, c = I s ∧ 1 ≤ s ∧ s ≤ 129 ∧ St w wr hb L) (fun c _ => 129 - (intOf c).toNat)
  case atStart => exact ⟨1, rfl, by omega, by omega, H0.out⟩
  case round =>
    obtain ⟨s, rfl, hs1, hs2, hst⟩ := hrel
    have H := Lib.hid hst
    clear hst
    by_cases hin : s ≤ L.length
    · have hs128 : s ≤ 128 := by omega
      obtain ⟨l, hl⟩ : ∃ l, assigned L (s : Int) = l := ⟨_, rfl⟩
      have hhas : decide (id ∈ l) = (mine == (s : Int)) := by
        rw [← hl]
        have := mem_assigned H.out.wf (id := id) (s := (s : Int)) (by omega)
        rw [HMI.out] at this
        by_cases e : mine = (s : Int)
        · rw [decide_eq_true (this.2 e), e]; simp
        · rw [decide_eq_false (fun hm => e (this.1 hm))]; symm; simpa using e
      obtain ⟨r, hr⟩ : ∃ r, root L (s : Int) = r := ⟨_, rfl⟩
      obtain ⟨z, hz⟩ : ∃ z, nd L r = z := ⟨_, rfl⟩
      have hf : ∀ y, y ∈ l → there L y = true ∧ there L r = true ∧ (z.kind != 3) = false ∧ ((nd L y).parent != z.host) = false := fun y hy => by
        obtain ⟨a, b, c, d⟩ := assigned_facts H.out.wf (hl ▸ hy)
        rw [hr] at b c d
        rw [hz] at c d
        exact ⟨a, b, by simp [c], by simp [d]⟩
      have hinc : ∀ p, p + 1 < l.length → ¬ (idxL L (l.getD p 0) ≥ idxL L (l.getD (p + 1) 0)) := fun p hp => by
        have := assigned_inc H.out.wf (s := (s : Int)) (p := p) (by rw [hl]; exact hp)
        rw [hl] at this
        omega
      have HL := Lib.hid hl
      have HH := Lib.hid hhas
      have HF := Lib.hid hf
      have HINC := Lib.hid hinc
      have HR := Lib.hid hr
      have HZ := Lib.hid hz
      clear hl hhas hf hinc hr hz
      go_wp2_with (first | (go_at_call 38; refine (len_calls H.out.fo).mono ?_; rintro e w5 ⟨rfl, rfl⟩) | fail)
      (with_reducible refine (assigned_calls H.out.fo H.out.wf (s : Int)).mono ?_)
      rw [HL.out]
      rintro e w6 ⟨lv, rfl, hown, hb6⟩
      have hint := hown.ints
      obtain ⟨ao, cap, rfl, hc1, hc2, hsl⟩ := hint.open
      obtain ⟨n, hn⟩ : ∃ n, l.length = n := ⟨_, rfl⟩
      have HN := Lib.hid hn
      rw [hn] at hint hc1 hsl ⊢
      have HI := Lib.hid hint
      have HSL := Lib.hid hsl
      unfold maxLen at hc2
      have H6 := Lib.hid (H.out.next hb6)
      clear H hb6
      have H := H6
      clear H6
      clear hn hint hsl hown
      go_wp2_with (first | (go_at_call 40; (with_reducible refine (has_calls HI.out id).mono ?_); rw [HH.out]; rintro e w7 ⟨rfl, rfl⟩) | fail)
      go_loopw [9] (fun c wr => ∃ q : Nat, c = I q ∧ q ≤ n ∧ St w wr hb L ∧ IntsAt wr (.slice ao n cap) l) (fun c _ => n - (intOf c).toNat)
      case atStart => exact ⟨0, rfl, by omega, H.out, HI.out⟩
      case round =>
        obtain ⟨q, rfl, hq, hst, hin⟩ := hrel
        clear H HI
        have H := Lib.hid hst
        have HI := Lib.hid hin
        clear hst hin
        by_cases hlt : q < n
        · obtain ⟨bb, off, e⟩ := HSL.out (by omega)
          subst e
          have hcell := HI.out.cellAt q (by rw [HN.out]; omega)
          obtain ⟨y, hy⟩ : ∃ y, l.getD q 0 = y := ⟨_, rfl⟩
          rw [hy] at hcell
          have hym : y ∈ l := by rw [← hy]; exact getD_mem (by rw [HN.out]; exact hlt)
          obtain ⟨t1, t2, t3, t4⟩ := HF.out y hym
          obtain ⟨m, hm⟩ : ∃ m, nd L y = m := ⟨_, rfl⟩
          rw [hm] at t4
          have T1 := Lib.hid t1
          have T2 := Lib.hid t2
          have HY := Lib.hid hy
          have HM := Lib.hid hm
          clear t1 t2 hm hy hym
          go_wp2_with fail
          (with_reducible refine (node_calls H.out.fo y).mono ?_)
          rw [T1.out, HM.out]
          rintro e w8 ⟨ka8, kc8, rfl, _, hb8⟩
          have HI8 := Lib.hid (HI.out.below hb8)
          have H8 := Lib.hid (H.out.next hb8)
          clear H hb8
          have H := H8
          clear H8
          clear HI hcell
          go_wp2_with fail
          (with_reducible refine (root_calls (H.out.next (below1 _ _)).fo H.out.wf.ends (s : Int)).mono ?_)
          rw [HR.out]
          rintro e w9 ⟨rfl, hb9⟩
          have e1 := cell_go hb9 (cell_new (o := 1) (v := I m.parent) rfl rfl)
          have HI9 := Lib.hid ((HI8.out.below (below1 _ _)).below hb9)
          have H9 := Lib.hid ((H.out.next (below1 _ _)).next hb9)
          clear H hb9
          have H := H9
          clear H9
          go_wp2_with fail
          (with_reducible refine (node_calls H.out.fo r).mono ?_)
          rw [HZ.out, T2.out]
          rintro e w10 ⟨ka10, kc10, rfl, _, hb10⟩
          have f1 := cell_go hb10 e1
          have l1 := cell_lt f1
          have HI10 := Lib.hid ((HI9.out.below hb10))
          have H10 := Lib.hid (H.out.next hb10)
          clear H hb10
          have H := H10
          clear H10
          clear e1 HI8 HI9
          by_cases hq0 : q = 0
          · subst hq0
            go_wp2
            go_quiet (fail)
            go_wp2
            go_roundw
            case rel => exact ⟨1, by go_num, by omega, H.out.next (below_drewN (below1 _ _) _), HI10.out.below (below_drewN (below1 _ _) _)⟩
            case measure => simp [intOf]; omega
          · obtain ⟨p, rfl⟩ : ∃ p, q = p + 1 := ⟨q - 1, by omega⟩
            have hpl : p + 1 < l.length := by rw [HN.out]; exact hlt
            have hi := HINC.out p hpl
            have hy1 := HY.out
            rw [hy1] at hi
            obtain ⟨y0, hy0⟩ : ∃ y0, l.getD p 0 = y0 := ⟨_, rfl⟩
            rw [hy0] at hi
            obtain ⟨i0, hi0⟩ : ∃ i0, idxL L y0 = i0 := ⟨_, rfl⟩
            obtain ⟨i1, hi1⟩ : ∃ i1, idxL L y = i1 := ⟨_, rfl⟩
            rw [hi0, hi1] at hi
            have hge : decide (i0 ≥ i1) = false := decide_eq_false (by omega)
            have hge2 : decide (i1 ≤ i0) = false := decide_eq_false (by omega)
            have hpos : decide (((p + 1 : Nat) : Int) > 0) = true := decide_eq_true (by omega)
            have hsub : IntKind.i64.wrap (((p + 1 : Nat) : Int) - 1) = (p : Int) := by rw [IntWalk.i64_in _ (by omega)]; omega
            have hsub2 : IntKind.i64.wrap ((p : Int) + 1 - 1) = (p : Int) := by rw [IntWalk.i64_in _ (by omega)]; omega
            have hsub3 : IntKind.i64.wrap (p : Int) = (p : Int) := IntWalk.i64_in _ (by omega)
            have k0 := HI10.out.cellAt p (by omega)
            have k1 := HI10.out.cellAt (p + 1) hpl
            rw [hy0] at k0
            rw [hy1] at k1
            have hb0 : (0 : Int) ≤ (p : Int) := by omega
            have hb1 : (p : Int) < (n : Int) := by omega
            have hb2 : (0 : Int) ≤ (p : Int) + 1 := by omega
            have hb3 : (p : Int) + 1 < (n : Int) := by omega
            have HI0 := Lib.hid hi0
            have HI1 := Lib.hid hi1
            have hlk := cell_lt k0
            have g0 : w10.cell? ⟨w10.heap.size, 0, none⟩ = w10.cell? ⟨w10.heap.size, 0, none⟩ := rfl
            clear hi hi0 hi1 hy0 hy1 hpl g0
            go_wp2_with fail
            go_region_held3 (fun w2 => w2.cell? ⟨w8.heap.size, 1, none⟩ = some (I m.parent) ∧ w2.cell? ⟨w10.heap.size, 0, none⟩ = some (I z.kind) ∧ w2.cell? ⟨w10.heap.size, 2, none⟩ = some (I z.host) ∧ w2.cell? ⟨bb, off + p, none⟩ = some (I y0) ∧ w2.cell? ⟨bb, off + (p + 1), none⟩ = some (I y) ∧ Below w10.heap.size w10 w2) (((try dsimp only); (repeat' apply And.intro) <;> (repeat (first | (with_reducible assumption) | (with_reducible exact Below.refl _ _) | (with_reducible refine cell_set ?_ (by omega)) | (with_reducible refine cell_new (by simp) rfl) | (with_reducible refine cell_alloc ?_) | (with_reducible refine cell_drew ?_) | (with_reducible refine below_set ?_ (by omega)) | (with_reducible refine below_alloc ?_) | (with_reducible refine below_drew ?_) | fail))))
              (first
                | (go_at_call 41; (with_reducible refine (kindex_calls (H.out.fo.below (‹_ ∧ _ ∧ _ ∧ _ ∧ _ ∧ Below _ _ _›).2.2.2.2.2) H.out.wf y0).mono ?_); rw [HI0.out]; rintro e w11 ⟨rfl, hb11⟩; have B11 := Below.step (‹_ ∧ _ ∧ _ ∧ _ ∧ _ ∧ Below _ _ _›).2.2.2.2.2 hb11; have a1 := cell_go hb11 (‹_ ∧ _ ∧ _ ∧ _ ∧ _ ∧ Below _ _ _›).1; have a2 := cell_go hb11 (‹_ ∧ _ ∧ _ ∧ _ ∧ _ ∧ Below _ _ _›).2.1; have a3 := cell_go hb11 (‹_ ∧ _ ∧ _ ∧ _ ∧ _ ∧ Below _ _ _›).2.2.1; have a4 := cell_go hb11 (‹_ ∧ _ ∧ _ ∧ _ ∧ _ ∧ Below _ _ _›).2.2.2.1; have a5 := cell_go hb11 (‹_ ∧ _ ∧ _ ∧ _ ∧ _ ∧ Below _ _ _›).2.2.2.2.1; clear hb11)
                | (go_at_call 41; (with_reducible refine (kindex_calls (H.out.fo.below (‹_ ∧ _ ∧ _ ∧ _ ∧ _ ∧ Below _ _ _›).2.2.2.2.2) H.out.wf y).mono ?_); rw [HI1.out]; rintro e w12 ⟨rfl, hb12⟩; have B12 := Below.step (‹_ ∧ _ ∧ _ ∧ _ ∧ _ ∧ Below _ _ _›).2.2.2.2.2 hb12; have c1 := cell_go hb12 (‹_ ∧ _ ∧ _ ∧ _ ∧ _ ∧ Below _ _ _›).1; have c2 := cell_go hb12 (‹_ ∧ _ ∧ _ ∧ _ ∧ _ ∧ Below _ _ _›).2.1; have c3 := cell_go hb12 (‹_ ∧ _ ∧ _ ∧ _ ∧ _ ∧ Below _ _ _›).2.2.1; have c4 := cell_go hb12 (‹_ ∧ _ ∧ _ ∧ _ ∧ _ ∧ Below _ _ _›).2.2.2.1; have c5 := cell_go hb12 (‹_ ∧ _ ∧ _ ∧ _ ∧ _ ∧ Below _ _ _›).2.2.2.2.1; clear hb12))
            go_wp2
            go_roundw
            case rel => exact ⟨p + 2, by go_num, by omega, H.out.next B12, HI10.out.below B12⟩
            case measure => simp [intOf]; omega
        · have e : q = n := by omega
          subst e
          go_wp2
          go_roundw
          case rel => exact ⟨s + 1, by go_num, by omega, by omega, H.out⟩
          case measure => simp [intOf]; omega
    · go_wp2_with (first | (go_at_call 38; refine (len_calls H.out.fo).mono ?_; rintro e w5 ⟨rfl, rfl⟩) | fail)
      go_ret
      exact ⟨rfl, H.out.bel⟩
end Go.Proofs.Ytidekbamlnpglaa.K09

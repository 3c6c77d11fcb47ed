/-
  The walks of towncrierlaw15's great and made.
-/
import Derived.Test.YtidekbamlnpglaaWk
namespace Go.Proofs.Ytidekbamlnpglaa.K15
open Go.RowKit Tc

set_option maxRecDepth 100000 in
set_option maxHeartbeats 1600000 in
theorem great_calls {w : World} {v : Value} {l : List Tc.Act} (h : ActsAt w v l) :
    Calls Try.prog 73 #[v] w fun e w' => e = .returned (.bool (!fewB l)) ∧ Below w.heap.size w w' := by
  obtain ⟨ao, cap, rfl, hc1, hc2, hsl⟩ := h.open
  obtain ⟨n, hn⟩ : ∃ n, l.length = n := ⟨_, rfl⟩
  have HA := Lib.hid h
  have HSL := Lib.hid hsl
  have HN := Lib.hid hn
  rw [hn] at hc1 HA HSL ⊢
  unfold maxLen at hc2
  clear h hsl hn
  go_enter Try.func73, Try.ntmps73
  go_wp2
  go_loopw [3] (fun c wr => ∃ k : Nat, c = I k ∧ k ≤ n ∧ (l.take k).all (fun x => decide (x.l.length ≤ 200)) = true ∧ Below w.heap.size w wr) (fun c _ => n - (intOf c).toNat)
  case atStart => exact ⟨0, rfl, by omega, by simp, Below.refl _ _⟩
  case round =>
    obtain ⟨k, rfl, hk, hall, hbel⟩ := hrel
    have HL := Lib.hid hall
    have HB := Lib.hid hbel
    clear hall hbel
    by_cases hlt : k < n
    · obtain ⟨b, off, e⟩ := HSL.out (by omega)
      subst e
      obtain ⟨x, hx⟩ : ∃ x, l[k]'(HN.out ▸ hlt) = x := ⟨_, rfl⟩
      obtain ⟨kv, lv, hact, _, hli⟩ := (HA.out.below HB.out).act k (HN.out ▸ hlt)
      rw [hx] at hact hli
      obtain ⟨lo, lc, rfl, hl1, hl2, _⟩ := hli.open
      have c13 := hact.c13
      have HX := Lib.hid hx
      clear hact hli hx
      have htk : l.take (k + 1) = l.take k ++ [x] := by
        rw [List.take_succ_eq_append_getElem (HN.out ▸ hlt), HX.out]
      have HT := Lib.hid htk
      clear htk
      by_cases h200 : x.l.length ≤ 200
      · have e1 : decide ((x.l.length : Int) > 200) = false := by rw [decide_eq_false_iff_not]; omega
        go_wp2
        go_roundw
        case rel =>
          refine ⟨k + 1, by go_num, by omega, ?_, HB.out⟩
          rw [HT.out, List.all_append, HL.out]
          simpa using h200
        case measure => simp [intOf]; omega
      · have e1 : decide ((x.l.length : Int) > 200) = true := by rw [decide_eq_true_iff]; omega
        have e : fewB l = false := by
          unfold fewB
          rw [Bool.and_eq_false_iff]
          right
          rw [List.all_eq_false]
          refine ⟨x, ?_, by simpa using h200⟩
          rw [← HX.out]; exact List.getElem_mem _
        have HE := Lib.hid e
        clear e
        go_wp2
        go_ret
        exact ⟨by rw [HE.out]; rfl, HB.out⟩
    · have e : k = n := by omega
      subst e
      have e : fewB l = decide (k ≤ 300) := by
        unfold fewB
        have := HL.out
        rw [List.take_of_length_le (Nat.le_of_eq HN.out)] at this
        rw [this, HN.out, Bool.and_true]
      have HE := Lib.hid e
      clear e
      by_cases h300 : k ≤ 300
      · have e1 : decide ((k : Int) > 300) = false := by rw [decide_eq_false_iff_not]; omega
        have e2 : fewB l = true := by rw [HE.out]; simpa using h300
        have HE2 := Lib.hid e2
        clear e2
        go_wp2
        go_ret
        exact ⟨by rw [HE2.out]; rfl, HB.out⟩
      · have e1 : decide ((k : Int) > 300) = true := by rw [decide_eq_true_iff]; omega
        have e2 : fewB l = false := by rw [HE.out]; simpa using h300
        have HE2 := Lib.hid e2
        clear e2
        go_wp2
        go_ret
        exact ⟨by rw [HE2.out]; rfl, HB.out⟩

theorem fold_take {l : List Tc.Act} {k : Nat} (hk : k < l.length) {x : Tc.Act} (hx : l[k] = x) : mades (l.take (k + 1)) = doAct (mades (l.take k)) x := by
  unfold mades
  rw [List.take_succ_eq_append_getElem hk, List.foldl_append, hx]; rfl

set_option maxRecDepth 100000 in
set_option maxHeartbeats 6400000 in
theorem made_calls {w : World} {v : Value} {l : List Tc.Act} (h : ActsAt w v l) (hf : fewB l = true) :
    Calls Try.prog 74 #[v] w fun e w' => ∃ hb, e = .returned (.pointer (some ⟨hb, 0, none⟩)) ∧ FoAt w' hb (fun k => w.heap.size ≤ k) (mades l) ∧ Below w.heap.size w w' := by
  obtain ⟨ao, cap, rfl, hc1, hc2, hsl⟩ := h.open
  obtain ⟨n, hn⟩ : ∃ n, l.length = n := ⟨_, rfl⟩
  unfold fewB at hf
  rw [Bool.and_eq_true, decide_eq_true_iff, hn] at hf
  have h300 := hf.1
  have HF := Lib.hid hf.2
  have HA := Lib.hid h
  have HSL := Lib.hid hsl
  have HN := Lib.hid hn
  rw [hn] at hc1 HA HSL ⊢
  unfold maxLen at hc2
  clear h hsl hn hf
  obtain ⟨B, hB⟩ : ∃ B, w.heap.size = B := ⟨_, rfl⟩
  rw [hB]
  have HBB := Lib.hid hB
  clear hB
  go_enter Try.func74, Try.ntmps74
  go_wp2_with fail
  refine (new_calls w).mono ?_
  rw [HBB.out]
  rintro e w1 ⟨rfl, hfo, hb1⟩
  have HFO := Lib.hid hfo
  have HB1 := Lib.hid hb1
  clear hfo hb1
  go_wp2
  go_loopw [4] (fun c wr => ∃ k : Nat, c = I k ∧ k ≤ n ∧ FoAt wr B (fun q => B ≤ q) (mades (l.take k)) ∧ Below B w wr) (fun c _ => n - (intOf c).toNat)
  case atStart => exact ⟨0, rfl, by omega, HFO.out, HB1.out⟩
  case round =>
    obtain ⟨k, rfl, hk, hfo, hbel⟩ := hrel
    have HO := Lib.hid hfo
    have HB := Lib.hid hbel
    clear hfo hbel HFO HB1
    by_cases hlt : k < n
    · have hlt3 : k < 300 := by omega
      obtain ⟨b, off, e⟩ := HSL.out (by omega)
      subst e
      obtain ⟨x, hx⟩ : ∃ x, l[k]'(HN.out ▸ hlt) = x := ⟨_, rfl⟩
      have HT := Lib.hid (fold_take (HN.out ▸ hlt) hx)
      have hxl : x.l.length ≤ 200 := by
        have := List.all_eq_true.1 HF.out x (by rw [← hx]; exact List.getElem_mem _)
        simpa using this
      have hWx := WF.mades (l.take k)
      have HW := Lib.hid hWx
      have HXL := Lib.hid hxl
      obtain ⟨kv, lv, hact0, hki0, hli0⟩ := HA.out.act k (HN.out ▸ hlt)
      have hact := hact0.below (HBB.out ▸ HB.out)
      have hki := hki0.below (HBB.out ▸ HB.out)
      have hli := hli0.below (HBB.out ▸ HB.out)
      rw [hx] at hact hli hki hli0
      have HKI := Lib.hid hki
      have HLI := Lib.hid hli
      obtain ⟨lo, lc, rfl, hl1, hl2, _⟩ := hli.open
      obtain ⟨ko, kc, rfl, hk1, hk2, _⟩ := hki.open
      obtain ⟨c0, c1, c2, c3, c4, c5, c6, c7, c8, c9, c10, c11, c12, c13⟩ := hact
      have hne : x.l ≠ [] → ∀ q, sliceBlock (.slice lo x.l.length lc) = some q → ¬ B ≤ q := fun hn0 q hq hle => by
        have := hli0.lt hn0 hq
        have := HBB.out
        omega
      have HNE := Lib.hid hne
      clear hact0 hki0 hli0 hki hli hx hne hxl hWx hl1 hl2 hk1 hk2
      by_cases q0 : x.kind = 0
      · have r0 : (x.kind == 0) = true := by simp [q0]
        have hd : doAct (mades (l.take k)) x = (mk (mades (l.take k)) x.n).1 := by unfold doAct; rw [if_pos q0]
        have HD := Lib.hid hd
        clear q0 hd
        go_wp2_with fail
        refine (make_calls ((HO.out.below (below1 _ _))) x.n ko x.n.kids.length kc).mono ?_
        rintro e w3 ⟨rfl, ht⟩
        have q := ht.to ((HO.out.below (below1 _ _)).size)
        have HQ := Lib.hid q
        clear ht q
        go_wp2
        go_roundw
        case rel => exact ⟨k + 1, by go_num, by omega, by rw [HT.out, HD.out]; exact HQ.out.1, (HB.out.trans ((below1 _ _).mono HO.out.size)).trans HQ.out.2⟩
        case measure => simp [intOf]; omega
      have r0 : (x.kind == 0) = false := by simpa using q0
      have N0 := Lib.hid q0
      clear q0
      by_cases q1 : x.kind = 1
      · have r1 : (x.kind == 1) = true := by simp [q1]
        have hd : doAct (mades (l.take k)) x = (put (mades (l.take k)) x.a x.l).1 := by unfold doAct; rw [if_neg N0.out, if_pos q1]
        have HD := Lib.hid hd
        clear q1 hd
        go_wp2_with fail
        refine (put_calls ((HO.out.below (below1 _ _))) HW.out x.a (.slice lo x.l.length lc) x.l (HLI.out.below (below1 _ _)) (by have := HXL.out; omega) HNE.out).mono ?_
        rintro e w3 ⟨rfl, ht⟩
        have q := ht.to ((HO.out.below (below1 _ _)).size)
        have HQ := Lib.hid q
        clear ht q
        go_wp2
        go_roundw
        case rel => exact ⟨k + 1, by go_num, by omega, by rw [HT.out, HD.out]; exact HQ.out.1, (HB.out.trans ((below1 _ _).mono HO.out.size)).trans HQ.out.2⟩
        case measure => simp [intOf]; omega
      have r1 : (x.kind == 1) = false := by simpa using q1
      have N1 := Lib.hid q1
      clear q1
      by_cases q2 : x.kind = 2
      · have r2 : (x.kind == 2) = true := by simp [q2]
        have hd : doAct (mades (l.take k)) x = (tie (mades (l.take k)) x.a x.b).1 := by unfold doAct; rw [if_neg N0.out, if_neg N1.out, if_pos q2]
        have HD := Lib.hid hd
        clear q2 hd
        go_wp2_with fail
        refine (tie_calls ((HO.out.below (below1 _ _))) HW.out x.a x.b).mono ?_
        rintro e w3 ⟨rfl, ht⟩
        have q := ht.to ((HO.out.below (below1 _ _)).size)
        have HQ := Lib.hid q
        clear ht q
        go_wp2
        go_roundw
        case rel => exact ⟨k + 1, by go_num, by omega, by rw [HT.out, HD.out]; exact HQ.out.1, (HB.out.trans ((below1 _ _).mono HO.out.size)).trans HQ.out.2⟩
        case measure => simp [intOf]; omega
      have r2 : (x.kind == 2) = false := by simpa using q2
      have N2 := Lib.hid q2
      clear q2
      by_cases q3 : x.kind = 3
      · have r3 : (x.kind == 3) = true := by simp [q3]
        have hd : doAct (mades (l.take k)) x = (nameF (mades (l.take k)) x.a x.s).1 := by unfold doAct; rw [if_neg N0.out, if_neg N1.out, if_neg N2.out, if_pos q3]
        have HD := Lib.hid hd
        clear q3 hd
        go_wp2_with fail
        refine (name_calls ((HO.out.below (below1 _ _))) x.a x.s).mono ?_
        rintro e w3 ⟨rfl, ht⟩
        have q := ht.to ((HO.out.below (below1 _ _)).size)
        have HQ := Lib.hid q
        clear ht q
        go_wp2
        go_roundw
        case rel => exact ⟨k + 1, by go_num, by omega, by rw [HT.out, HD.out]; exact HQ.out.1, (HB.out.trans ((below1 _ _).mono HO.out.size)).trans HQ.out.2⟩
        case measure => simp [intOf]; omega
      have r3 : (x.kind == 3) = false := by simpa using q3
      have N3 := Lib.hid q3
      clear q3
      by_cases q4 : x.kind = 4
      · have r4 : (x.kind == 4) = true := by simp [q4]
        have hd : doAct (mades (l.take k)) x = (wantF (mades (l.take k)) x.a x.s).1 := by unfold doAct; rw [if_neg N0.out, if_neg N1.out, if_neg N2.out, if_neg N3.out, if_pos q4]
        have HD := Lib.hid hd
        clear q4 hd
        go_wp2_with fail
        refine (want_calls ((HO.out.below (below1 _ _))) x.a x.s).mono ?_
        rintro e w3 ⟨rfl, ht⟩
        have q := ht.to ((HO.out.below (below1 _ _)).size)
        have HQ := Lib.hid q
        clear ht q
        go_wp2
        go_roundw
        case rel => exact ⟨k + 1, by go_num, by omega, by rw [HT.out, HD.out]; exact HQ.out.1, (HB.out.trans ((below1 _ _).mono HO.out.size)).trans HQ.out.2⟩
        case measure => simp [intOf]; omega
      have r4 : (x.kind == 4) = false := by simpa using q4
      have N4 := Lib.hid q4
      clear q4
      have hd : doAct (mades (l.take k)) x = mades (l.take k) := by unfold doAct; rw [if_neg N0.out, if_neg N1.out, if_neg N2.out, if_neg N3.out, if_neg N4.out]
      have HD := Lib.hid hd
      clear hd
      go_wp2
      go_roundw
      case rel => exact ⟨k + 1, by go_num, by omega, by rw [HT.out, HD.out]; exact HO.out.below (below1 _ _), HB.out.trans ((below1 _ _).mono HO.out.size)⟩
      case measure => simp [intOf]; omega
    · have e : k = n := by omega
      subst e
      have e : mades (l.take k) = mades l := by rw [List.take_of_length_le (Nat.le_of_eq HN.out)]
      have HE := Lib.hid e
      clear e
      go_wp2
      go_ret
      exact ⟨_, rfl, by rw [← HE.out]; exact HO.out, HB.out⟩

end Go.Proofs.Ytidekbamlnpglaa.K15

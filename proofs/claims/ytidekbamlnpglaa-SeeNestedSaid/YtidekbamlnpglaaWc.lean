/-
  The walks of shade's out, roots, Whole, Holds, Hidden, Closed.
-/
import Derived.Test.YtidekbamlnpglaaWb
import Derived.Test.YtidekbamlnpglaaPc
namespace Go.Proofs.Ytidekbamlnpglaa
open Go.RowKit Tc

theorem node_calls {w : World} {hb : Nat} {S : Nat → Prop} {L : Fo} (h : FoAt w hb S L) (id : Int) :
    Calls Try.prog 22 #[.pointer (some ⟨hb, 0, none⟩), I id] w fun e w' => ∃ ka kc, e = .returned (.tuple #[ndVal (nd L id) (.slice ka (nd L id).kids.length kc), .bool (there L id)]) ∧ OwnI w' w.heap.size (.slice ka (nd L id).kids.length kc) (nd L id).kids ∧ Below w.heap.size w w' := by
  cases ht : there L id with
  | true =>
    refine (node_in h id ht).mono ?_
    rintro e w' ⟨kv, rfl, hk, hb⟩
    obtain ⟨ka, kc, rfl⟩ := hk.shape
    exact ⟨ka, kc, rfl, hk, hb⟩
  | false =>
    refine (node_out h id ht).mono ?_
    rintro e w' ⟨rfl, hb⟩
    refine ⟨none, 0, ?_, ?_, hb⟩
    · rw [nd_not ht]; rfl
    · rw [nd_not ht]; exact World.ownsRow_nil _ _ _ _

set_option maxRecDepth 100000 in
set_option maxHeartbeats 400000 in
theorem out_calls {w : World} {hb : Nat} {S : Nat → Prop} {L : Fo} (h : FoAt w hb S L) (hE : Tc.Ends L) (id : Int) :
    Calls Try.prog 87 #[.pointer (some ⟨hb, 0, none⟩), I id] w fun e w' => e = .returned (.tuple #[I (root L id), I (outH L id)]) ∧ Below w.heap.size w w' := by
  have H := Lib.hid h
  have HE := Lib.hid hE
  obtain ⟨r, hr⟩ : ∃ r, root L id = r := ⟨_, rfl⟩
  have ho : outH L id = if (nd L r).kind = 3 then hst L r else 0 := by rw [← hr]; rfl
  have HR := Lib.hid hr
  rw [hr]
  clear h hE hr
  by_cases hk : (nd L r).kind = 3
  · rw [if_pos hk] at ho
    rw [ho]
    have hk' : ((nd L r).kind != 3) = false := by simp [hk]
    clear hk ho
    go_enter Try.func87, Try.ntmps87
    go_wp2_with fail
    refine (root_calls H.out HE.out id).mono ?_
    rw [HR.out]
    rintro e w1 ⟨rfl, hb1⟩
    go_wp2_with (go_at_call 22; refine (node_calls (H.out.below hb1) r).mono ?_; rintro e w2 ⟨ka, kc, rfl, hk2, hb2⟩)
    go_quiet (fail)
    go_wp2
    go_ret2
    exact ⟨rfl, below_drewN (Below.step (Below.step hb1 hb2) (below1 _ _)) _⟩
  · rw [if_neg hk] at ho
    rw [ho]
    have hk' : ((nd L r).kind != 3) = true := by simpa using hk
    clear hk ho
    go_enter Try.func87, Try.ntmps87
    go_wp2_with fail
    refine (root_calls H.out HE.out id).mono ?_
    rw [HR.out]
    rintro e w1 ⟨rfl, hb1⟩
    go_wp2_with (go_at_call 22; refine (node_calls (H.out.below hb1) r).mono ?_; rintro e w2 ⟨ka, kc, rfl, hk2, hb2⟩)
    go_ret2
    exact ⟨rfl, Below.step (Below.step hb1 hb2) (below1 _ _)⟩

set_option maxRecDepth 100000 in
set_option maxHeartbeats 800000 in
theorem roots_calls {w : World} {hb : Nat} {S : Nat → Prop} {L : Fo} (h : FoAt w hb S L) (hW : WF L) (id : Int) :
    Calls Try.prog 85 #[.pointer (some ⟨hb, 0, none⟩), I id] w fun e w' => ∃ v, e = .returned v ∧ OwnI w' w.heap.size v (roots L id) ∧ Below w.heap.size w w' := by
  have hlen0 := over_length hW.ends id
  have hfew := h.few
  have H := Lib.hid h
  have HW := Lib.hid hW
  clear h hW
  go_enter Try.func85, Try.ntmps85
  go_wp2_with (go_at_call 38; refine (len_calls H.out).mono ?_; rintro e w1 ⟨rfl, rfl⟩)
  go_loopw [1, 5, 10] (fun i v c wr => ∃ cur acc, ∃ k : Nat, i = I cur ∧ c = I k ∧ k ≤ L.length ∧ OwnI wr w.heap.size v acc ∧ roots L id = acc ++ roots L cur ∧ k + (over L cur).length ≤ L.length ∧ acc.length ≤ k ∧ Below w.heap.size w wr)
    (fun _ _ c _ => L.length - (intOf c).toNat)
  case atStart => exact ⟨id, [], 0, rfl, rfl, by omega, World.ownsRow_nil _ _ _ _, rfl, by omega, by simp, Below.refl _ _⟩
  case round =>
    obtain ⟨cur, acc, k, rfl, rfl, hk, hown, hr, hlen, hacc, hbel⟩ := hrel
    have HR := Lib.hid hr
    have HO := Lib.hid hown
    have HB := Lib.hid hbel
    clear hr hown hbel
    by_cases hlt : k < L.length
    · by_cases ht : there L cur = true
      · have hrn : (root L cur == 0) = false := by simpa using root_ne HW.out ht
        have hdec := over_outH_lt HW.out ht
        have hrc := roots_cons HW.out ht
        have HC := Lib.hid hrc
        have HT := Lib.hid ht
        clear hrc ht
        by_cases ho : outH L cur = 0
        · have ho' : (outH L cur == 0) = true := by simpa using ho
          have HZ := Lib.hid ho
          clear ho
          go_wp2_with fail
          refine (out_calls (H.out.below HB.out) HW.out.ends cur).mono ?_
          rintro e w1 ⟨rfl, hb1⟩
          have HB1 := Lib.hid hb1
          clear hb1
          go_wp2_with (at_builtin; go_must (refine appI rfl (.tmp 20) (.tmp 22) rfl w.heap.size _ acc rfl ((ownI_below HO.out HB1.out).alloc _) _ [root L cur] rfl (IntsAt.one' (by simp)) (by simp; omega) (by simp; have := HB.out.size; have := HB1.out.size; omega) ?_); intro v' w' hown hg)
          go_ret
          refine ⟨v', rfl, ?_, grown_below ((Below.step HB.out HB1.out).alloc (by have := HB.out.size; have := HB1.out.size; omega) _) ((ownI_below HO.out HB1.out).alloc _) hg (by simp; have := HB.out.size; have := HB1.out.size; omega) (Nat.le_refl _)⟩
          rw [HR.out, HC.out, HZ.out, roots_not (there_zero L)]
          exact hown
        · have ho' : (outH L cur == 0) = false := by simpa using ho
          have HZ := Lib.hid ho
          clear ho
          go_wp2_with fail
          refine (out_calls (H.out.below HB.out) HW.out.ends cur).mono ?_
          rintro e w1 ⟨rfl, hb1⟩
          have HB1 := Lib.hid hb1
          clear hb1
          go_wp2_with (at_builtin; go_must (refine appI rfl (.tmp 20) (.tmp 22) rfl w.heap.size _ acc rfl ((ownI_below HO.out HB1.out).alloc _) _ [root L cur] rfl (IntsAt.one' (by simp)) (by simp; omega) (by simp; have := HB.out.size; have := HB1.out.size; omega) ?_); intro v' w' hown hg)
          go_roundw
          case rel =>
            refine ⟨outH L cur, acc ++ [root L cur], k + 1, rfl, by go_num, by omega, hown, ?_, by omega, by simp; omega, grown_below ((Below.step HB.out HB1.out).alloc (by have := HB.out.size; have := HB1.out.size; omega) _) ((ownI_below HO.out HB1.out).alloc _) hg (by simp; have := HB.out.size; have := HB1.out.size; omega) (Nat.le_refl _)⟩
            rw [HR.out, HC.out]; simp
          case measure => simp [intOf]; omega
      · have ht' : there L cur = false := by simpa using ht
        have hr0 : root L cur = 0 := root_zero ht'
        have ho0 : outH L cur = 0 := outH_not HW.out ht'
        have HT := Lib.hid ht'
        have HZ := Lib.hid hr0
        have HZ2 := Lib.hid ho0
        clear ht ht' hr0 ho0
        go_wp2_with fail
        refine (out_calls (H.out.below HB.out) HW.out.ends cur).mono ?_
        rw [HZ.out, HZ2.out]
        rintro e w1 ⟨rfl, hb1⟩
        go_wp2
        go_ret
        refine ⟨_, rfl, ?_, Below.step HB.out hb1⟩
        rw [HR.out, roots_not HT.out, List.append_nil]
        exact ownI_below HO.out hb1
    · have hke : k = L.length := by omega
      have ht' : there L cur = false := by
        cases ht : there L cur with
        | false => rfl
        | true =>
          rw [over_cons HW.out.ends ht] at hlen
          simp at hlen; omega
      have HT := Lib.hid ht'
      clear hke ht'
      go_wp2
      go_ret
      refine ⟨_, rfl, ?_, HB.out⟩
      rw [HR.out, roots_not HT.out, List.append_nil]
      exact HO.out

theorem getLast_getD (l : List Int) (n : Nat) (h : l.length = n + 1) : l.getLastD 0 = l.getD n 0 := by
  rw [List.getLastD_eq_getLast?, List.getLast?_eq_getElem?, h]; rfl

set_option maxHeartbeats 400000 in
theorem whole_calls {w : World} {hb : Nat} {S : Nat → Prop} {L : Fo} (h : FoAt w hb S L) (hW : WF L) (id : Int) :
    Calls Try.prog 23 #[.pointer (some ⟨hb, 0, none⟩), I id] w fun e w' => e = .returned (I (whole L id)) ∧ Below w.heap.size w w' := by
  have hlen : (roots L id).length ≤ 128 := by
    have h1 := over_length hW.ends id
    have h2 := h.few
    have h3 : (roots L id).length ≤ (over L id).length := List.length_filter_le _ _
    omega
  have hwr := whole_roots hW id
  obtain ⟨l, hl⟩ : ∃ l, roots L id = l := ⟨_, rfl⟩
  rw [hl] at hwr hlen
  have HL := Lib.hid hl
  have H := Lib.hid h
  have HW := Lib.hid hW
  rw [← hwr]
  clear h hW hl hwr
  go_enter Try.func23, Try.ntmps23
  go_wp2_with fail
  refine (roots_calls H.out HW.out id).mono ?_
  rw [HL.out]
  rintro e w1 ⟨v, rfl, hown, hb1⟩
  obtain ⟨ao, cap, rfl, hc1, hc2, hp⟩ := hown.ints.open
  by_cases hz : l.length = 0
  · have hz' : l = [] := List.length_eq_zero_iff.1 hz
    subst hz'
    clear hown hp hc1 hc2 hz
    go_wp2
    go_ret
    exact ⟨rfl, hb1⟩
  · obtain ⟨b, off, rfl⟩ := hp (by omega)
    have hcell := hown.ints.cellAt (l.length - 1) (by omega)
    obtain ⟨n, hn⟩ : ∃ n, l.length = n + 1 := ⟨l.length - 1, by omega⟩
    rw [hn] at hcell hc1 hlen ⊢
    have HH := Lib.hid (getLast_getD l n hn)
    rw [show n + 1 - 1 = n from rfl] at hcell
    unfold maxLen at hc2
    clear hown hp hz hn
    go_wp2
    go_ret
    exact ⟨by rw [HH.out, List.getD_eq_getElem?_getD]; rfl, hb1⟩

set_option maxRecDepth 100000 in
set_option maxHeartbeats 800000 in
theorem holds_calls {w : World} {hb : Nat} {S : Nat → Prop} {L : Fo} (h : FoAt w hb S L) (hW : WF L) (a b : Int) :
    Calls Try.prog 24 #[.pointer (some ⟨hb, 0, none⟩), I a, I b] w fun e w' => e = .returned (.bool (decide (a ∈ over L b))) ∧ Below w.heap.size w w' := by
  have hlen0 := over_length hW.ends b
  have hfew := h.few
  have H := Lib.hid h
  have HW := Lib.hid hW
  clear h hW
  go_enter Try.func24, Try.ntmps24
  go_wp2_with (go_at_call 38; refine (len_calls H.out).mono ?_; rintro e w1 ⟨rfl, rfl⟩)
  go_loopw [2, 9] (fun i c wr => ∃ cur, ∃ k : Nat, i = I cur ∧ c = I k ∧ k ≤ L.length ∧ (a ∈ over L b ↔ a ∈ over L cur) ∧ k + (over L cur).length ≤ L.length ∧ Below w.heap.size w wr)
    (fun _ c _ => L.length - (intOf c).toNat)
  case atStart => exact ⟨b, 0, rfl, rfl, by omega, Iff.rfl, by omega, Below.refl _ _⟩
  case round =>
    obtain ⟨cur, k, rfl, rfl, hk, hr, hlen, hbel⟩ := hrel
    have HR := Lib.hid hr
    have HB := Lib.hid hbel
    clear hr hbel
    by_cases hlt : k < L.length
    · by_cases hu : a ∈ up L cur
      · have hu' : decide (a ∈ up L cur) = true := by simpa using hu
        have HU := Lib.hid hu
        clear hu
        go_wp2_with fail
        refine (above_calls (H.out.below HB.out) HW.out.ends a cur).mono ?_
        rw [hu']
        rintro e w1 ⟨rfl, hb1⟩
        go_wp2
        go_ret
        refine ⟨?_, Below.step HB.out hb1⟩
        have : decide (a ∈ over L b) = true := by simpa using HR.out.2 (up_sub_over HW.out.ends cur a HU.out)
        rw [this]; rfl
      · have hu' : decide (a ∈ up L cur) = false := by simpa using hu
        have HU := Lib.hid hu
        clear hu
        have hstep : a ∈ over L cur ↔ a ∈ over L (outH L cur) := by
          cases ht : there L cur with
          | true => rw [over_up HW.out ht, List.mem_append]; exact ⟨fun h => h.elim (fun h => absurd h HU.out) id, Or.inr⟩
          | false => rw [outH_not HW.out ht, over_not ht, over_not (there_zero L)]
        have HS := Lib.hid hstep
        have hdec : outH L cur ≠ 0 → (over L (outH L cur)).length < (over L cur).length := fun h0 => by
          cases ht : there L cur with
          | true => exact over_outH_lt HW.out ht
          | false => exact absurd (outH_not HW.out ht) h0
        have HD := Lib.hid hdec
        clear hstep hdec
        by_cases ho : outH L cur = 0
        · have ho' : (outH L cur == 0) = true := by simpa using ho
          have HZ := Lib.hid ho
          clear ho
          go_wp2_with fail
          refine (above_calls (H.out.below HB.out) HW.out.ends a cur).mono ?_
          rw [hu']
          rintro e w1 ⟨rfl, hb1⟩
          have HB1 := Lib.hid hb1
          clear hb1
          go_wp2_with (go_at_call 87; refine (out_calls ((H.out.below HB.out).below HB1.out) HW.out.ends cur).mono ?_; rintro e w2 ⟨rfl, hb2⟩)
          go_ret
          refine ⟨?_, Below.step (Below.step HB.out HB1.out) hb2⟩
          have : decide (a ∈ over L b) = false := by
            rw [decide_eq_false_iff_not, HR.out, HS.out, HZ.out, over_not (there_zero L)]; simp
          rw [this]; rfl
        · have ho' : (outH L cur == 0) = false := by simpa using ho
          have hd := HD.out ho
          have HZ := Lib.hid ho
          clear ho
          go_wp2_with fail
          refine (above_calls (H.out.below HB.out) HW.out.ends a cur).mono ?_
          rw [hu']
          rintro e w1 ⟨rfl, hb1⟩
          have HB1 := Lib.hid hb1
          clear hb1
          go_wp2_with (go_at_call 87; refine (out_calls ((H.out.below HB.out).below HB1.out) HW.out.ends cur).mono ?_; rintro e w2 ⟨rfl, hb2⟩)
          go_roundw
          case rel => exact ⟨outH L cur, k + 1, rfl, by go_num, by omega, HR.out.trans HS.out, by omega, Below.step (Below.step HB.out HB1.out) hb2⟩
          case measure => simp [intOf]; omega
    · have he : over L cur = [] := List.length_eq_zero_iff.1 (by omega)
      have HE := Lib.hid he
      clear he
      go_wp2
      go_ret
      refine ⟨?_, HB.out⟩
      have : decide (a ∈ over L b) = false := by rw [decide_eq_false_iff_not, HR.out, HE.out]; simp
      rw [this]; rfl

set_option maxRecDepth 100000 in
set_option maxHeartbeats 1600000 in
theorem hidden_calls {w : World} {hb : Nat} {S : Nat → Prop} {L : Fo} (h : FoAt w hb S L) (hW : WF L) (a b : Int) :
    Calls Try.prog 25 #[.pointer (some ⟨hb, 0, none⟩), I a, I b] w fun e w' => e = .returned (.bool (hidden L a b)) ∧ Below w.heap.size w w' := by
  have hlen0 := over_length hW.ends a
  have hfew := h.few
  have H := Lib.hid h
  have HW := Lib.hid hW
  clear h hW
  cases htb : there L b with
  | false =>
    have hh : hidden L a b = false := by unfold hidden; rw [htb]; rfl
    rw [hh]
    have HT := Lib.hid htb
    clear hh htb
    go_enter Try.func25, Try.ntmps25
    go_wp2_with fail
    refine (node_out H.out b HT.out).mono ?_
    rintro e w1 ⟨rfl, hb1⟩
    go_wp2
    go_ret
    exact ⟨rfl, Below.step hb1 (below1 _ _)⟩
  | true =>
    have HT := Lib.hid htb
    clear htb
    go_enter Try.func25, Try.ntmps25
    go_wp2_with fail
    refine (node_calls H.out b).mono ?_
    rw [HT.out]
    rintro e w1 ⟨ka, kc, rfl, _, hb1⟩
    have HB1 := Lib.hid hb1
    clear hb1
    go_wp2_with (go_at_call 38; refine (len_calls ((H.out.below HB1.out).below (below1 _ _))).mono ?_; rintro e w1 ⟨rfl, rfl⟩)
    go_loopw [1, 23] (fun i c wr => ∃ cur, ∃ k : Nat, i = I cur ∧ c = I k ∧ k ≤ L.length ∧ hidden L a b = hidden L cur b ∧ k + (over L cur).length ≤ L.length ∧ Below w.heap.size w wr)
      (fun _ c _ => L.length - (intOf c).toNat)
    case atStart => exact ⟨a, 0, rfl, rfl, by omega, rfl, by omega, Below.step HB1.out (below1 _ _)⟩
    case round =>
      obtain ⟨cur, k, rfl, rfl, hk, hr, hlen, hbel⟩ := hrel
      have HR := Lib.hid hr
      have HB := Lib.hid hbel
      clear hr hbel
      by_cases hlt : k < L.length
      · by_cases ho : outH L cur = 0
        · have ho' : (outH L cur == 0) = true := by simpa using ho
          have hh : hidden L cur b = false := by
            cases ht : there L cur with
            | false => exact hidden_not ht
            | true => rw [hidden_step HW.out ht HT.out, if_pos (Or.inl ho)]
          have HH := Lib.hid hh
          clear ho hh
          go_wp2_with fail
          refine (out_calls (H.out.below HB.out) HW.out.ends cur).mono ?_
          rintro e w2 ⟨rfl, hb2⟩
          go_wp2
          go_ret
          refine ⟨?_, Below.step HB.out hb2⟩
          rw [HR.out, HH.out]; rfl
        · have ht : there L cur = true := by
            cases ht : there L cur with
            | false => exact absurd (outH_not HW.out ht) ho
            | true => rfl
          have hstep := hidden_step HW.out ht HT.out
          have hd := over_outH_lt HW.out ht
          have ho' : (outH L cur == 0) = false := by simpa using ho
          by_cases hm : root L cur ∈ over L b
          · rw [if_pos (Or.inr hm)] at hstep
            have hm' : decide (root L cur ∈ over L b) = true := by simpa using hm
            have HH := Lib.hid hstep
            clear ho hm hstep ht
            go_wp2_with fail
            refine (out_calls (H.out.below HB.out) HW.out.ends cur).mono ?_
            rintro e w2 ⟨rfl, hb2⟩
            have HB2 := Lib.hid hb2
            clear hb2
            go_wp2_with fail
            refine (holds_calls ((H.out.below HB.out).below HB2.out) HW.out (root L cur) b).mono ?_
            rw [hm']
            rintro e w3 ⟨rfl, hb3⟩
            go_wp2
            go_ret
            refine ⟨?_, Below.step (Below.step HB.out HB2.out) hb3⟩
            rw [HR.out, HH.out]; rfl
          · rw [if_neg (show ¬ (outH L cur = 0 ∨ root L cur ∈ over L b) from fun e => e.elim ho hm)] at hstep
            have hm' : decide (root L cur ∈ over L b) = false := by simpa using hm
            by_cases hmo : (nd L (root L cur)).mode = 2
            · rw [if_pos hmo] at hstep
              have hmo' : ((nd L (root L cur)).mode == 2) = true := by simpa using hmo
              have HH := Lib.hid hstep
              clear ho hm hstep ht hmo
              go_wp2_with fail
              refine (out_calls (H.out.below HB.out) HW.out.ends cur).mono ?_
              rintro e w2 ⟨rfl, hb2⟩
              have HB2 := Lib.hid hb2
              clear hb2
              go_wp2_with fail
              refine (holds_calls ((H.out.below HB.out).below HB2.out) HW.out (root L cur) b).mono ?_
              rw [hm']
              rintro e w3 ⟨rfl, hb3⟩
              have HB3 := Lib.hid hb3
              clear hb3
              go_wp2_with (go_at_call 22; refine (node_calls (((H.out.below HB.out).below HB2.out).below HB3.out) (root L cur)).mono ?_; rintro e w4 ⟨ka4, kc4, rfl, _, hb4⟩)
              go_ret
              refine ⟨?_, Below.step (Below.step (Below.step (Below.step HB.out HB2.out) HB3.out) hb4) (below1 _ _)⟩
              rw [HR.out, HH.out]; rfl
            · rw [if_neg hmo] at hstep
              have hmo' : ((nd L (root L cur)).mode == 2) = false := by simpa using hmo
              have HH := Lib.hid hstep
              clear ho hm hstep ht hmo
              go_wp2_with fail
              refine (out_calls (H.out.below HB.out) HW.out.ends cur).mono ?_
              rintro e w2 ⟨rfl, hb2⟩
              have HB2 := Lib.hid hb2
              clear hb2
              go_wp2_with fail
              refine (holds_calls ((H.out.below HB.out).below HB2.out) HW.out (root L cur) b).mono ?_
              rw [hm']
              rintro e w3 ⟨rfl, hb3⟩
              have HB3 := Lib.hid hb3
              clear hb3
              go_wp2_with (go_at_call 22; refine (node_calls (((H.out.below HB.out).below HB2.out).below HB3.out) (root L cur)).mono ?_; rintro e w4 ⟨ka4, kc4, rfl, _, hb4⟩)
              go_roundw
              case rel => exact ⟨outH L cur, k + 1, rfl, by go_num, by omega, HR.out.trans HH.out, by omega, Below.step (Below.step (Below.step (Below.step HB.out HB2.out) HB3.out) hb4) (below1 _ _)⟩
              case measure => simp [intOf]; omega
      · have he : over L cur = [] := List.length_eq_zero_iff.1 (by omega)
        have hh : hidden L cur b = false := by unfold hidden closeds; rw [he]; simp
        have HE := Lib.hid hh
        clear he hh
        go_wp2
        go_ret
        refine ⟨?_, HB.out⟩
        rw [HR.out, HE.out]; rfl

theorem filter_take_succ {p : Int → Bool} {l : List Int} {k : Nat} (hk : k < l.length) : (l.take (k + 1)).filter p = (l.take k).filter p ++ (if p (l.getD k 0) then [l.getD k 0] else []) := by
  rw [List.take_succ_eq_append_getElem hk, List.filter_append, List.getD_eq_getElem?_getD, List.getElem?_eq_getElem hk, Option.getD_some]
  congr 1
  rw [List.filter_cons]; split <;> simp

set_option maxRecDepth 100000 in
set_option maxHeartbeats 800000 in
theorem closed_calls {w : World} {hb : Nat} {S : Nat → Prop} {L : Fo} (h : FoAt w hb S L) (hW : WF L) (id : Int) :
    Calls Try.prog 26 #[.pointer (some ⟨hb, 0, none⟩), I id] w fun e w' => ∃ v, e = .returned v ∧ OwnI w' w.heap.size v (closeds L id) ∧ Below w.heap.size w w' := by
  have hlen : (roots L id).length ≤ 128 := by
    have h1 := over_length hW.ends id
    have h2 := h.few
    have h3 : (roots L id).length ≤ (over L id).length := List.length_filter_le _ _
    omega
  have hcr := closeds_roots hW id
  obtain ⟨l, hl⟩ : ∃ l, roots L id = l := ⟨_, rfl⟩
  rw [hl] at hcr hlen
  have HL := Lib.hid hl
  have HCR := Lib.hid hcr
  have H := Lib.hid h
  have HW := Lib.hid hW
  clear h hW hl hcr
  go_enter Try.func26, Try.ntmps26
  go_wp2_with fail
  refine (roots_calls H.out HW.out id).mono ?_
  rw [HL.out]
  rintro e w1 ⟨v, rfl, hown, hb1⟩
  obtain ⟨ao, cap, rfl, hc1, hc2, hp⟩ := hown.ints.open
  obtain ⟨n, hn⟩ : ∃ n, l.length = n := ⟨_, rfl⟩
  have HI := Lib.hid hown.ints
  have HP := Lib.hid hp
  have HN := Lib.hid hn
  have HB1 := Lib.hid hb1
  rw [hn] at hlen hc1 HI ⊢
  unfold maxLen at hc2
  clear hown hp hn hb1
  go_wp2
  go_loopw [5, 14] (fun v c wr => ∃ k : Nat, c = I k ∧ k ≤ n ∧ OwnI wr w1.heap.size v ((l.take k).filter (closedB L)) ∧ Below w1.heap.size w1 wr)
    (fun _ c _ => n - (intOf c).toNat)
  case atStart => exact ⟨0, rfl, by omega, World.ownsRow_nil _ _ _ _, Below.refl _ _⟩
  case round =>
    obtain ⟨k, rfl, hk, hown, hbel⟩ := hrel
    have HO := Lib.hid hown
    have HB := Lib.hid hbel
    have hacc : ((l.take k).filter (closedB L)).length ≤ 128 := by
      have h1 := List.length_filter_le (closedB L) (l.take k)
      have h2 : (l.take k).length ≤ l.length := by rw [List.length_take]; omega
      rw [HN.out] at h2; omega
    obtain ⟨acc, hac⟩ : ∃ acc, (l.take k).filter (closedB L) = acc := ⟨_, rfl⟩
    rw [hac] at HO hacc
    have HA := Lib.hid hac
    clear hown hbel hac
    by_cases hlt : k < n
    · obtain ⟨b, off, e⟩ := HP.out (by rw [HN.out]; omega)
      subst e
      have hcell := (HI.out.below HB.out).cellAt k (by rw [HN.out]; omega)
      obtain ⟨y, hy⟩ : ∃ y, l.getD k 0 = y := ⟨_, rfl⟩
      rw [hy] at hcell
      have hstep := filter_take_succ (p := closedB L) (l := l) (k := k) (by rw [HN.out]; exact hlt)
      rw [hy, HA.out] at hstep
      clear hy
      by_cases h1 : (nd L y).kind = 3
      · have h1' : ((nd L y).kind == 3) = true := by simpa using h1
        by_cases h2 : (nd L y).mode = 2
        · have h2' : ((nd L y).mode == 2) = true := by simpa using h2
          rw [if_pos (by unfold closedB; rw [h1, h2]; rfl)] at hstep
          have HS := Lib.hid hstep
          clear hstep h1 h2
          go_wp2_with fail
          refine (node_calls ((H.out.below HB1.out).below HB.out) y).mono ?_
          rintro e w2 ⟨ka, kc, rfl, _, hb2⟩
          have HB2 := Lib.hid hb2
          clear hb2
          go_wp2_with (at_builtin; go_must (refine appI rfl (.tmp 32) (.tmp 34) rfl w1.heap.size _ acc rfl ((ownI_below (ownI_below HO.out HB2.out) (below1 _ _)).alloc _) _ [y] rfl (IntsAt.one' (by simp)) (by simp; omega) (by simp; have := HB.out.size; have := HB2.out.size; omega) ?_); intro v' w' hown hg)
          have hb3 := grown_below ((Below.step (Below.step HB.out HB2.out) (below1 _ _)).alloc (by simp; have := HB.out.size; have := HB2.out.size; omega) _) ((ownI_below (ownI_below HO.out HB2.out) (below1 _ _)).alloc _) hg (by simp; have := HB.out.size; have := HB2.out.size; omega) (Nat.le_refl _)
          go_roundw
          case rel => exact ⟨k + 1, by go_num, by omega, by rw [HS.out]; exact hown, hb3⟩
          case measure => simp [intOf]; omega
        · have h2' : ((nd L y).mode == 2) = false := by simpa using h2
          rw [if_neg (by unfold closedB; simp [h2])] at hstep
          have HS := Lib.hid hstep
          clear hstep h1 h2
          go_wp2_with (go_at_call 22; refine (node_calls ((H.out.below HB1.out).below HB.out) y).mono ?_; rintro e w2 ⟨ka, kc, rfl, _, hb2⟩)
          go_roundw
          case rel => exact ⟨k + 1, by go_num, by omega, by rw [HS.out, List.append_nil]; exact ownI_below (ownI_below HO.out hb2) (below1 _ _), Below.step (Below.step HB.out hb2) (below1 _ _)⟩
          case measure => simp [intOf]; omega
      · have h1' : ((nd L y).kind == 3) = false := by simpa using h1
        rw [if_neg (by unfold closedB; simp [h1])] at hstep
        have HS := Lib.hid hstep
        clear hstep h1
        go_wp2_with (go_at_call 22; refine (node_calls ((H.out.below HB1.out).below HB.out) y).mono ?_; rintro e w2 ⟨ka, kc, rfl, _, hb2⟩)
        go_roundw
        case rel => exact ⟨k + 1, by go_num, by omega, by rw [HS.out, List.append_nil]; exact ownI_below (ownI_below HO.out hb2) (below1 _ _), Below.step (Below.step HB.out hb2) (below1 _ _)⟩
        case measure => simp [intOf]; omega
    · have hkn : k = l.length := by rw [HN.out]; omega
      have HK := Lib.hid hkn
      clear hkn
      go_wp2
      go_ret
      refine ⟨_, rfl, ?_, Below.step HB1.out HB.out⟩
      have := HA.out
      rw [HK.out, List.take_length, HCR.out] at this
      rw [this]
      exact ownsRow_base HO.out HB1.out.size

end Go.Proofs.Ytidekbamlnpglaa

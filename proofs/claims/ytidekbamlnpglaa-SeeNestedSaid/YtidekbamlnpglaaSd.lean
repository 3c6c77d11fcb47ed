/-
  The walks of slot's Slots and Of.
-/
import Derived.Test.YtidekbamlnpglaaSc
namespace Go.Proofs.Ytidekbamlnpglaa
open Go.RowKit Tc

set_option maxRecDepth 100000 in
theorem slots1_on (w : World) (L : Fo) : IsOn w L 96 #[] (fun id => (nd L id).slot) := by
  intro w' _ id ka kc _
  show Calls Try.prog 96 #[I id, ndVal (nd L id) (.slice ka (nd L id).kids.length kc)] w' _
  go_enter Try.func96, Try.ntmps96
  go_wp2
  go_ret
  exact ⟨rfl, below1 _ _⟩
theorem enS : EntersF 96 := Go.Proofs.enters_of Try.func96 (by kernel_rfl) rfl
set_option maxRecDepth 100000 in
theorem flat1_on (w : World) (L : Fo) : IsOn w L 99 #[] (fun id => decide ((nd L id).kind = 2)) := by
  intro w' _ id ka kc _
  have e : decide ((nd L id).kind = 2) = ((nd L id).kind == 2) := by by_cases h : (nd L id).kind = 2 <;> simp [h]
  simp only [e]
  show Calls Try.prog 99 #[I id, ndVal (nd L id) (.slice ka (nd L id).kids.length kc)] w' _
  go_enter Try.func99, Try.ntmps99
  go_wp2
  go_ret
  exact ⟨rfl, below1 _ _⟩
theorem enF : EntersF 99 := Go.Proofs.enters_of Try.func99 (by kernel_rfl) rfl

set_option maxRecDepth 100000 in
set_option maxHeartbeats 800000 in
theorem slots_calls {w : World} {hb : Nat} {S : Nat → Prop} {L : Fo} (h : FoAt w hb S L) (hW : WF L) (r : Int) :
    Calls Try.prog 44 #[ptr hb, I r] w fun e w' => ∃ v, e = .returned v ∧ OwnI w' w.heap.size v (slots L r) ∧ Below w.heap.size w w' := by
  have hl := order_length hW r
  have hl2 := hW.len
  have he : (order L r).filter (fun x => there L x && (nd L x).slot) = slots L r := by
    unfold slots
    refine List.filter_congr fun x hx => ?_
    rw [(mem_order hW _ _ _ (Nat.le_refl _) hx).1, Bool.true_and]
  have H := Lib.hid h
  have HW := Lib.hid hW
  have HE := Lib.hid he
  clear h hW he
  go_enter Try.func44, Try.ntmps44
  go_wp2_with fail
  refine (order_calls H.out HW.out r).mono ?_
  rintro e w1 ⟨v1, rfl, ho, hb1⟩
  have HO := Lib.hid ho
  have HB1 := Lib.hid hb1
  clear ho hb1
  go_wp2_with fail
  refine (pick_calls (H.out.below HB1.out) (slots1_on w1 L) enS HO.out.ints (by omega)).mono ?_
  rw [HE.out]
  rintro e w2 ⟨v2, rfl, ho2, hb2⟩
  have HO2 := Lib.hid ho2
  have HB2 := Lib.hid hb2
  clear ho2 hb2
  go_wp2
  go_ret
  exact ⟨v2, rfl, ownsRow_base HO2.out HB1.out.size, Below.step HB1.out HB2.out⟩

theorem names_eq {a b : ByteArray} (h : a = b) : (a.toList == b.toList) = true := by subst h; simp
theorem names_ne {a b : ByteArray} (h : a ≠ b) : (a.toList == b.toList) = false := by
  rw [beq_eq_false_iff_ne]
  intro e
  rw [ByteArray.toList_eq, ByteArray.toList_eq] at e
  exact h (ByteArray.ext (Array.ext' e))
theorem slotOf_zero1 {L : Fo} {id : Int} (h : there L (par L id) = false) : slotOf L id = 0 := by unfold slotOf; rw [if_pos (Or.inl h)]
theorem slotOf_zero2 {L : Fo} {id : Int} (h : ((nd L id).kind != 2) = true) : slotOf L id = 0 := by unfold slotOf; rw [if_pos (Or.inr (Or.inl (by simpa using h)))]
theorem slotOf_zero3 {L : Fo} {id : Int} (h : ((nd L (par L id)).shadow == 0) = true) : slotOf L id = 0 := by unfold slotOf; rw [if_pos (Or.inr (Or.inr (by simpa using h)))]

set_option maxRecDepth 100000 in
set_option maxHeartbeats 1600000 in
theorem of_calls {w : World} {hb : Nat} {S : Nat → Prop} {L : Fo} (h : FoAt w hb S L) (hW : WF L) (id : Int) :
    Calls Try.prog 37 #[ptr hb, I id] w fun e w' => e = .returned (I (slotOf L id)) ∧ Below w.heap.size w w' := by
  obtain ⟨x, hx⟩ : ∃ x, nd L id = x := ⟨_, rfl⟩
  have hp : par L id = x.parent := by rw [← hx]
  obtain ⟨y, hy⟩ : ∃ y, nd L x.parent = y := ⟨_, rfl⟩
  have H := Lib.hid h
  have HW := Lib.hid hW
  have HX := Lib.hid hx
  have HY := Lib.hid hy
  have HP := Lib.hid hp
  obtain ⟨so, hso⟩ : ∃ so, slotOf L id = so := ⟨_, rfl⟩
  have HSO := Lib.hid hso
  rw [hso]
  clear h hW hp hx hy hso
  cases ht : there L x.parent
  · have HT := Lib.hid ht
    have hz : so = 0 := by rw [← HSO.out]; exact slotOf_zero1 (by rw [HP.out]; exact ht)
    subst hz
    clear ht
    go_enter Try.func37, Try.ntmps37
    go_wp2_with fail
    refine (node_calls H.out id).mono ?_
    rw [HX.out]
    rintro e w1 ⟨ka, kc, rfl, _, hb1⟩
    have HB1 := Lib.hid hb1
    clear hb1
    go_wp2_with fail
    refine (node_calls (H.out.below (Below.step HB1.out (below1 _ _))) x.parent).mono ?_
    rw [HY.out, HT.out]
    rintro e w2 ⟨ka2, kc2, rfl, _, hb2⟩
    have HB2 := Lib.hid hb2
    clear hb2
    go_wp2
    go_ret
    exact ⟨rfl, Below.step (Below.step (Below.step HB1.out (below1 _ _)) HB2.out) (below1 _ _)⟩
  · have HT := Lib.hid ht
    clear ht
    by_cases hz : (x.kind != 2) = true ∨ (x.kind != 2) = false ∧ (y.shadow == 0) = true
    · have h0 : so = 0 := by
        rw [← HSO.out]
        rcases hz with h | h
        · exact slotOf_zero2 (by rw [HX.out]; exact h)
        · exact slotOf_zero3 (by rw [HP.out, HY.out]; exact h.2)
      subst h0
      rcases hz with k1 | ⟨k1, k2⟩
      all_goals
        go_enter Try.func37, Try.ntmps37
        go_wp2_with fail
        refine (node_calls H.out id).mono ?_
        rw [HX.out]
        rintro e w1 ⟨ka, kc, rfl, _, hb1⟩
        have HB1 := Lib.hid hb1
        clear hb1
        go_wp2_with fail
        refine (node_calls (H.out.below (Below.step HB1.out (below1 _ _))) x.parent).mono ?_
        rw [HY.out, HT.out]
        rintro e w2 ⟨ka2, kc2, rfl, _, hb2⟩
        have HB2 := Lib.hid hb2
        have hs1 := hb2.size
        have d3 := (hb2.cell (p := ⟨w1.heap.size, 0, none⟩) (by simp)).trans (World.cell?_alloc_at _ _ _ _ rfl)
        simp at d3 hs1
        have hlt1 : w1.heap.size < w2.heap.size := by omega
        clear hb2
        go_wp2
        go_ret
        exact ⟨rfl, Below.step (Below.step (Below.step HB1.out (below1 _ _)) HB2.out) (below1 _ _)⟩
    · have k1 : (x.kind != 2) = false := by
        cases h : (x.kind != 2) with
        | false => rfl
        | true => exact absurd (Or.inl h) hz
      have k2 : (y.shadow == 0) = false := by
        cases h : (y.shadow == 0) with
        | false => rfl
        | true => exact absurd (Or.inr ⟨k1, h⟩) hz
      obtain ⟨l, hl⟩ : ∃ l, slots L y.shadow = l := ⟨_, rfl⟩
      have hso : (l.find? fun s => decide ((nd L s).name = x.want)).getD 0 = so := by
        rw [← HSO.out]
        unfold slotOf
        rw [if_neg, HP.out, HX.out, HY.out, hl]
        rw [HP.out, HX.out, HY.out, HT.out]
        simp only [not_or]
        refine ⟨by simp, by simpa using k1, by simpa using k2⟩
      have hll : l.length ≤ 128 := by
        rw [← hl]; unfold slots
        exact Nat.le_trans (List.length_filter_le _ _) (Nat.le_trans (order_length HW.out _) HW.out.len)
      obtain ⟨n, hn⟩ : ∃ n, l.length = n := ⟨_, rfl⟩
      rw [hn] at hll
      have HL := Lib.hid hl
      have HN := Lib.hid hn
      have HS := Lib.hid hso
      clear hz hl hn hso HSO
      go_enter Try.func37, Try.ntmps37
      go_wp2_with fail
      refine (node_calls H.out id).mono ?_
      rw [HX.out]
      rintro e w1 ⟨ka, kc, rfl, _, hb1⟩
      have HB1 := Lib.hid hb1
      clear hb1
      go_wp2_with fail
      refine (node_calls (H.out.below (Below.step HB1.out (below1 _ _))) x.parent).mono ?_
      rw [HY.out, HT.out]
      rintro e w2 ⟨ka2, kc2, rfl, _, hb2⟩
      have HB2 := Lib.hid hb2
      have hs1 := hb2.size
      have d0 := (hb2.cell (p := ⟨w1.heap.size, 0, none⟩) (by simp)).trans (World.cell?_alloc_at _ _ _ _ rfl)
      have d7 := (hb2.cell (p := ⟨w1.heap.size, 7, none⟩) (by simp)).trans (World.cell?_alloc_at _ _ _ _ rfl)
      simp at d0 d7 hs1
      have hlt1 : w1.heap.size < w2.heap.size := by omega
      have HD7 := Lib.hid d7
      clear hb2 d7
      go_wp2_with fail
      refine (slots_calls (H.out.below (Below.step (Below.step (Below.step HB1.out (below1 _ _)) HB2.out) (below1 _ _))) HW.out y.shadow).mono ?_
      rw [HL.out]
      rintro e w3 ⟨v, rfl, ho, hb3⟩
      have HB3 := Lib.hid (Below.step (Below.step (Below.step (Below.step HB1.out (below1 _ _)) HB2.out) (below1 _ _)) hb3)
      have hd7 : w3.cell? ⟨w1.heap.size, 7, none⟩ = some (.string x.want) := ((Below.step (below1 w2 _) hb3).cell (p := ⟨w1.heap.size, 7, none⟩) hlt1).trans HD7.out
      have hint := ho.ints
      obtain ⟨ao, cap, rfl, hc1, hc2, hsl⟩ := hint.open
      rw [HN.out] at hint hc1 hsl ⊢
      unfold maxLen at hc2
      have HI := Lib.hid hint
      have HSL := Lib.hid hsl
      have HD := Lib.hid hd7
      have HLT := Lib.hid (show w1.heap.size < w3.heap.size from World.block_lt_of_cell? _ _ hd7)
      clear ho hb3 hint hsl hd7 d0
      go_wp2
      go_loopw [43] (fun c wr => ∃ q : Nat, c = I q ∧ q ≤ n ∧ ((l.drop q).find? fun s => decide ((nd L s).name = x.want)).getD 0 = so ∧ Below w3.heap.size w3 wr) (fun c _ => n - (intOf c).toNat)
      case atStart => exact ⟨0, rfl, by omega, HS.out, Below.refl _ _⟩
      case round =>
        obtain ⟨q, rfl, hq, hf, hbel⟩ := hrel
        have HF := Lib.hid hf
        have HB := Lib.hid hbel
        clear hf hbel
        have d7r := (HB.out.cell (p := ⟨w1.heap.size, 7, none⟩) HLT.out).trans HD.out
        have hltr : w1.heap.size < wr.heap.size := by have := HB.out.size; have := HLT.out; omega
        have hfo := (H.out.below HB3.out).below HB.out
        have HFO := Lib.hid hfo
        clear hfo
        by_cases hlt : q < n
        · obtain ⟨b, off, e⟩ := HSL.out (by omega)
          subst e
          have hcell := (HI.out.below HB.out).cellAt q (by rw [HN.out]; omega)
          obtain ⟨s, hs⟩ : ∃ s, l.getD q 0 = s := ⟨_, rfl⟩
          rw [hs] at hcell
          have hdr : l.drop q = s :: l.drop (q + 1) := by
            have hq' : q < l.length := by rw [HN.out]; exact hlt
            rw [List.drop_eq_getElem_cons hq', ← hs, List.getD_eq_getElem?_getD, List.getElem?_eq_getElem hq', Option.getD_some]
          have hff := HF.out
          rw [hdr, List.find?_cons] at hff
          obtain ⟨m, hm⟩ : ∃ m, nd L s = m := ⟨_, rfl⟩
          rw [hm] at hff
          have HM := Lib.hid hm
          have HFF := Lib.hid hff
          clear hs hdr hff hm
          by_cases hz : m.name = x.want
          · have hq := names_eq hz
            have hso : s = so := by
              have := HFF.out
              rw [decide_eq_true hz] at this
              exact this
            subst hso
            clear hz
            go_wp2_with fail
            refine (node_calls HFO.out s).mono ?_
            rw [HM.out]
            rintro e w4 ⟨ka4, kc4, rfl, _, hb4⟩
            have HB4 := Lib.hid hb4
            have d7s := (hb4.cell (p := ⟨w1.heap.size, 7, none⟩) hltr).trans d7r
            have hlts : w1.heap.size < w4.heap.size := by have := hb4.size; omega
            clear hb4
            go_wp2
            go_ret
            exact ⟨rfl, Below.step HB3.out (Below.step (Below.step HB.out HB4.out) (below1 _ _))⟩
          · have hq := names_ne hz
            have hso : ((l.drop (q + 1)).find? fun s => decide ((nd L s).name = x.want)).getD 0 = so := by
              have := HFF.out
              rw [decide_eq_false_iff_not.2 hz] at this
              exact this
            have HSO2 := Lib.hid hso
            clear hz hso
            go_wp2_with fail
            refine (node_calls HFO.out s).mono ?_
            rw [HM.out]
            rintro e w4 ⟨ka4, kc4, rfl, _, hb4⟩
            have HB4 := Lib.hid hb4
            have d7s := (hb4.cell (p := ⟨w1.heap.size, 7, none⟩) hltr).trans d7r
            have hlts : w1.heap.size < w4.heap.size := by have := hb4.size; omega
            clear hb4
            go_wp2
            go_roundw
            case rel => exact ⟨q + 1, by go_num, by omega, HSO2.out, Below.step (Below.step HB.out HB4.out) (below1 _ _)⟩
            case measure => simp [intOf]; omega
        · have e : q = n := by omega
          subst e
          have hso : so = 0 := by
            have := HF.out
            rw [List.drop_of_length_le (by rw [HN.out]; exact Nat.le_refl _)] at this
            exact this.symm
          subst hso
          go_wp2
          go_ret
          exact ⟨rfl, Below.step HB3.out HB.out⟩

end Go.Proofs.Ytidekbamlnpglaa

/-
  The walk of the arena's Put.
-/
import Derived.Test.YtidekbamlnpglaaWh
import Derived.Test.YtidekbamlnpglaaHs
namespace Go.Proofs.Ytidekbamlnpglaa
open Go.RowKit Tc

theorem IntsAt.take {w : World} {ao : Option Addr} {n cap : Nat} {l : List Int} (h : IntsAt w (.slice ao n cap) l) {k : Nat} (hk : k ≤ l.length) : IntsAt w (.slice ao k cap) (l.take k) := by
  obtain ⟨ao', cap', e, h1, h2, h3, h4, h5⟩ := h
  simp only [Value.slice.injEq] at e
  obtain ⟨rfl, _, rfl⟩ := e
  have hl : (l.take k).length = k := by rw [List.length_take]; omega
  refine ⟨ao, cap, by rw [hl], by rw [hl]; omega, h2, ?_, ?_, ?_⟩
  · intro hn; obtain ⟨a, b⟩ := h3 hn; subst a; simp [b]
  · intro a ha hne; exact h4 a ha (fun e => hne (by rw [e]; simp))
  · intro b off hb j hj
    rw [hl] at hj
    rw [h5 b off hb j (by omega)]
    simp [List.getD, hj]

theorem nodup_take_succ {l : List Int} {k : Nat} (hk : k < l.length) (h : (l.take k).Nodup) (hn : l.getD k 0 ∉ l.take k) : (l.take (k + 1)).Nodup := by
  have e : l.getD k 0 = l[k] := by rw [List.getD_eq_getElem?_getD, List.getElem?_eq_getElem hk, Option.getD_some]
  rw [e] at hn
  rw [List.take_succ_eq_append_getElem hk, List.nodup_append]
  refine ⟨h, by simp, fun a ha b hb => ?_⟩
  rw [List.mem_singleton] at hb
  subst hb
  intro e
  exact hn (e ▸ ha)

theorem getD_mem {l : List Int} {k : Nat} (hk : k < l.length) : l.getD k 0 ∈ l := by
  rw [List.getD_eq_getElem?_getD, List.getElem?_eq_getElem hk, Option.getD_some]; exact List.getElem_mem hk
theorem all_getD {l : List Int} {p : Int → Prop} (h : ∀ j, j < l.length → p (l.getD j 0)) : ∀ x ∈ l, p x := by
  intro x hx
  obtain ⟨j, hj, rfl⟩ := List.getElem_of_mem hx
  have := h j hj
  rwa [List.getD_eq_getElem?_getD, List.getElem?_eq_getElem hj, Option.getD_some] at this

theorem putE_bad1 {L : Fo} {p : Int} {l : List Int} (h : badKid1 L l = true) : put L p l = (L, 1) := by
  have hE : putE L p l = 1 := by unfold putE; rw [if_pos (Or.inr h)]
  unfold put; rw [hE]; rfl
theorem badKid1_there {L : Fo} {l : List Int} {k : Nat} (hk : k < l.length) (h : there L (l.getD k 0) = false) : badKid1 L l = true := by
  unfold badKid1
  have : l.all (there L) = false := by rw [List.all_eq_false]; exact ⟨_, getD_mem hk, by rw [h]; simp⟩
  rw [this]; rfl
theorem badKid1_twice {L : Fo} {l : List Int} {k : Nat} (hk : k < l.length) (h : l.getD k 0 ∈ l.take k) : badKid1 L l = true := by
  unfold badKid1
  have : ¬ l.Nodup := fun hn => by
    have e : l = l.take k ++ l.drop k := (List.take_append_drop k l).symm
    rw [e] at hn
    have h2 : l.getD k 0 ∈ l.drop k := by
      rw [List.drop_eq_getElem_cons hk, List.getD_eq_getElem?_getD, List.getElem?_eq_getElem hk, Option.getD_some]; exact List.mem_cons_self
    exact (List.nodup_append.1 hn).2.2 _ h _ h2 rfl
  simp [this]
theorem putE_bad2 {L : Fo} {p : Int} {l : List Int} (hp : there L p = true) (h1 : badKid1 L l = false) {k : Nat} (hk : k < l.length) (h : badKid2 L p (l.getD k 0) = true) : put L p l = (L, 3) := by
  have hE : putE L p l = 3 := by
    unfold putE
    rw [if_neg (by rw [hp, h1]; simp), if_pos (List.any_eq_true.2 ⟨_, getD_mem hk, h⟩)]
  unfold put; rw [hE]; rfl
theorem putE_ok {L : Fo} {p : Int} {l : List Int} (hp : there L p = true) (h1 : badKid1 L l = false) (h2 : ∀ x ∈ l, badKid2 L p x = false) : putE L p l = 0 := by
  unfold putE
  rw [if_neg (by rw [hp, h1]; simp), if_neg]
  intro h
  obtain ⟨x, hx, hb⟩ := List.any_eq_true.1 h
  rw [h2 x hx] at hb; cases hb

theorem badKid2_true {L : Fo} {p y : Int} (h : ((nd L y).kind = 1 ∨ (nd L y).kind = 3) ∨ y ∈ over L p ∨ ((nd L y).parent ≠ 0 ∧ (nd L y).parent ≠ p)) : badKid2 L p y = true := by
  unfold badKid2 par
  rcases h with (h | h) | h | ⟨h1, h2⟩ <;> simp [*]
theorem badKid2_false {L : Fo} {p y : Int} (h1 : ¬ ((nd L y).kind = 1 ∨ (nd L y).kind = 3)) (h2 : y ∉ over L p) (h3 : ¬ ((nd L y).parent ≠ 0 ∧ (nd L y).parent ≠ p)) : badKid2 L p y = false := by
  unfold badKid2 par
  simp only [not_or] at h1
  simp only [Bool.or_eq_false_iff, decide_eq_false_iff_not, Bool.and_eq_false_iff]
  refine ⟨⟨⟨h1.1, h1.2⟩, ?_⟩, ?_⟩
  · rw [List.contains_eq_mem]; simpa using h2
  · by_cases e : (nd L y).parent ≠ 0
    · exact Or.inr (fun e2 => h3 ⟨e, e2⟩)
    · exact Or.inl e

theorem FoG.oldKids {w : World} {hb : Nat} {S : Nat → Prop} {L : Fo} {g cap : Nat} {kvs : List Value} (_ : FoG w hb S L g cap kvs) : (Value.slice (some ⟨g, 0, none⟩) L.length cap).ownBlock = some g := rfl

set_option maxRecDepth 100000 in
set_option maxHeartbeats 400000 in
theorem put_none {w : World} {hb : Nat} {S : Nat → Prop} {L : Fo} (h : FoAt w hb S L) (p : Int) (hp : there L p = false) (v : Value) (l : List Int) :
    Calls Try.prog 77 #[.pointer (some ⟨hb, 0, none⟩), I p, v] w fun e w' => e = .returned (I (put L p l).2) ∧ Turned w w' hb S (put L p l).1 := by
  have hv : put L p l = (L, 1) := by
    have hE : putE L p l = 1 := by unfold putE; rw [if_pos (Or.inl hp)]
    unfold put; rw [hE]; rfl
  have H0 := Lib.hid h
  have HP := Lib.hid (there_false.1 hp)
  rw [hv]
  clear hv h hp
  go_enter Try.func77, Try.ntmps77
  go_wp2_with fail
  refine (at_out H0.out p HP.out).mono ?_
  rintro e w1 ⟨rfl, rfl⟩
  go_wp2
  go_ret
  exact ⟨rfl, Turned.of_below H0.out (Below.refl _ _)⟩

theorem heap_setCell_same {w w' : World} {g o : Nat} {u : Value} (h : w'.heap[g]? = w.heap[g]?) : (w'.setCell ⟨g, o, none⟩ u).heap[g]? = (w.setCell ⟨g, o, none⟩ u).heap[g]? := by
  simp only [World.setCell, Array.getElem?_modify, h]
theorem Keeps.then_below {S : Nat → Prop} {B : Nat} {a b c : World} (h : Keeps S a b) (k : Below B b c) (hB : a.heap.size ≤ B) : Keeps S a c :=
  ⟨k.os.trans h.os, k.tape.trans h.tape, k.output.trans h.output, Nat.le_trans h.size k.size, fun i hi hs => (k.block i (by omega)).trans (h.block i hi hs)⟩

set_option maxRecDepth 100000 in
set_option maxHeartbeats 6400000 in
theorem put_there {w : World} {hb : Nat} {S : Nat → Prop} {L : Fo} (h : FoAt w hb S L) (hW : WF L) (p : Int) (hp : there L p = true) (v : Value) (l : List Int) (hv : IntsAt w v l) (hl : l.length ≤ 100000)
    (hS : l ≠ [] → ∀ k, sliceBlock v = some k → ¬ S k) :
    Calls Try.prog 77 #[.pointer (some ⟨hb, 0, none⟩), I p, v] w fun e w' => e = .returned (I (put L p l).2) ∧ Turned w w' hb S (put L p l).1 := by
  obtain ⟨g, cap, kvs, hg⟩ := h.openG hp
  obtain ⟨offp, hop⟩ : ∃ off, (p.toNat - 1) * 9 = off := ⟨_, rfl⟩
  obtain ⟨ao, cv, rfl, hc1, hc2, hsl⟩ := hv.open
  obtain ⟨n, hn⟩ : ∃ n, l.length = n := ⟨_, rfl⟩
  have H0 := Lib.hid h
  have H := Lib.hid hg
  have HP := Lib.hid hp
  have HOP := Lib.hid hop
  have HW := Lib.hid hW
  have HV := Lib.hid hv
  have HS := Lib.hid hS
  have HSL := Lib.hid hsl
  have HN := Lib.hid hn
  rw [hn] at hc1 hl HV HS ⊢
  unfold maxLen at hc2
  clear h hW hp hv hS hg hop hsl hn
  go_enter Try.func77, Try.ntmps77
  go_wp2_with fail
  refine (at_G H.out HP.out HOP.out).mono ?_
  rintro e w1 ⟨rfl, rfl⟩
  go_wp2
  go_loop [24] (fun c => ∃ k : Nat, c = I k ∧ k ≤ n ∧ (∀ j, j < k → there L (l.getD j 0) = true) ∧ (l.take k).Nodup) (fun c => n - (intOf c).toNat)
  case atStart => exact ⟨0, rfl, by omega, fun j hj => by omega, by simp⟩
  case round =>
    obtain ⟨k, rfl, hk, hall, hnd⟩ := hrel
    have HA := Lib.hid hall
    have HND := Lib.hid hnd
    clear hall hnd
    by_cases hlt : k < n
    · obtain ⟨b, off, e⟩ := HSL.out (by rw [HN.out]; omega)
      subst e
      have hcell := HV.out.cellAt k (by rw [HN.out]; omega)
      obtain ⟨y, hy⟩ : ∃ y, l.getD k 0 = y := ⟨_, rfl⟩
      rw [hy] at hcell
      have HY := Lib.hid hy
      clear hy
      by_cases hty : there L y = true
      · obtain ⟨offy, hoy⟩ : ∃ off, (y.toNat - 1) * 9 = off := ⟨_, rfl⟩
        have HOY := Lib.hid hoy
        have HTY := Lib.hid hty
        clear hty hoy
        have hkc : k ≤ cv := by omega
        by_cases hm : y ∈ l.take k
        · have hm' : decide (y ∈ l.take k) = true := by simpa using hm
          have HX := Lib.hid (putE_bad1 (p := p) (badKid1_twice (L := L) (by rw [HN.out]; exact hlt) (by rw [HY.out]; exact hm)))
          clear hm
          go_wp2_with fail
          refine (at_G H.out HTY.out HOY.out).mono ?_
          rintro e w1 ⟨rfl, rfl⟩
          go_wp2_with (go_at_call 125; refine (contains_calls (HV.out.take (by rw [HN.out]; exact hk)) (by rw [List.length_take]; omega) y).mono ?_; rw [hm']; rintro e w1 ⟨rfl, rfl⟩)
          go_ret
          rw [HX.out]
          exact ⟨rfl, Turned.of_below H0.out (Below.refl _ _)⟩
        · have hm' : decide (y ∈ l.take k) = false := by simpa using hm
          have HM := Lib.hid hm
          clear hm
          go_wp2_with fail
          refine (at_G H.out HTY.out HOY.out).mono ?_
          rintro e w1 ⟨rfl, rfl⟩
          go_wp2_with (go_at_call 125; refine (contains_calls (HV.out.take (by rw [HN.out]; exact hk)) (by rw [List.length_take]; omega) y).mono ?_; rw [hm']; rintro e w1 ⟨rfl, rfl⟩)
          go_round
          case rel =>
            refine ⟨k + 1, by go_num, by omega, fun j hj => ?_, nodup_take_succ (by rw [HN.out]; exact hlt) HND.out (by rw [HY.out]; exact HM.out)⟩
            by_cases e : j = k
            · subst e; rw [HY.out]; exact HTY.out
            · exact HA.out j (by omega)
          case measure => simp [intOf]; omega
      · have hty' : there L y = false := by simpa using hty
        have HX := Lib.hid (putE_bad1 (p := p) (badKid1_there (L := L) (l := l) (k := k) (by rw [HN.out]; exact hlt) (by rw [HY.out]; exact hty')))
        have HTY := Lib.hid (there_false.1 hty')
        clear hty hty'
        go_wp2_with fail
        refine (at_out H0.out y HTY.out).mono ?_
        rintro e w1 ⟨rfl, rfl⟩
        go_wp2
        go_ret
        rw [HX.out]
        exact ⟨rfl, Turned.of_below H0.out (Below.refl _ _)⟩
    · have hkn : k = l.length := by rw [HN.out]; omega
      have hgood : badKid1 L l = false := by
        unfold badKid1
        have a1 : l.all (there L) = true := List.all_eq_true.2 (all_getD fun j hj => HA.out j (by omega))
        have a2 : l.Nodup := by have := HND.out; rwa [hkn, List.take_length] at this
        simp [a1, a2]
      have HG := Lib.hid hgood
      clear hkn hgood HA HND
      go_wp2
      go_loop [43] (fun c => ∃ k : Nat, c = I k ∧ k ≤ n ∧ (∀ j, j < k → badKid2 L p (l.getD j 0) = false)) (fun c => n - (intOf c).toNat)
      case atStart => exact ⟨0, rfl, by omega, fun j hj => by omega⟩
      case round =>
        obtain ⟨k, rfl, hk, hall⟩ := hrel
        have HA := Lib.hid hall
        clear hall
        by_cases hlt : k < n
        · obtain ⟨b, off, e⟩ := HSL.out (by rw [HN.out]; omega)
          subst e
          have hcell := HV.out.cellAt k (by rw [HN.out]; omega)
          have hty : there L (l.getD k 0) = true := by
            have hg1 := HG.out
            unfold badKid1 at hg1
            simp only [Bool.or_eq_false_iff, Bool.not_eq_false', List.all_eq_true] at hg1
            exact hg1.1 _ (getD_mem (by rw [HN.out]; exact hlt))
          have hbad : badKid2 L p (l.getD k 0) = true → put L p l = (L, 3) := fun e => putE_bad2 HP.out HG.out (by rw [HN.out]; exact hlt) e
          obtain ⟨y, hy⟩ : ∃ y, l.getD k 0 = y := ⟨_, rfl⟩
          rw [hy] at hcell hty hbad
          have HY := Lib.hid hy
          clear hy
          obtain ⟨offy, hoy⟩ : ∃ off, (y.toNat - 1) * 9 = off := ⟨_, rfl⟩
          obtain ⟨kvy, hly, _, _, _⟩ := H.out.lies hty hoy
          have c1 := hly.c1
          have HOY := Lib.hid hoy
          have HTY := Lib.hid hty
          have HLY := Lib.hid hly
          have HBAD := Lib.hid hbad
          clear hty hoy hly hbad
          by_cases b1 : (nd L y).kind = 1 ∨ (nd L y).kind = 3
          · have b1' : decide ((nd L y).kind = 1 ∨ (nd L y).kind = 3) = true := by simpa using b1
            have HX := Lib.hid (HBAD.out (badKid2_true (Or.inl b1)))
            clear b1
            go_wp2_with fail
            refine (at_G H.out HTY.out HOY.out).mono ?_
            rintro e w1 ⟨rfl, rfl⟩
            go_wp2_with fail
            refine (at_G H.out HTY.out HOY.out).mono ?_
            rintro e w1 ⟨rfl, rfl⟩
            go_wp2_with fail
            refine (rooted_calls HLY.out).mono ?_
            rw [b1']
            rintro e w1 ⟨rfl, rfl⟩
            go_wp2
            go_ret
            rw [HX.out]
            exact ⟨rfl, Turned.of_below H0.out (Below.refl _ _)⟩
          · have b1' : decide ((nd L y).kind = 1 ∨ (nd L y).kind = 3) = false := by simpa using b1
            by_cases b2 : y ∈ over L p
            · have b2' : decide (y ∈ over L p) = true := by simpa using b2
              have HX := Lib.hid (HBAD.out (badKid2_true (Or.inr (Or.inl b2))))
              clear b1 b2
              go_wp2_with fail
              refine (at_G H.out HTY.out HOY.out).mono ?_
              rintro e w1 ⟨rfl, rfl⟩
              go_wp2_with fail
              refine (at_G H.out HTY.out HOY.out).mono ?_
              rintro e w1 ⟨rfl, rfl⟩
              go_wp2_with fail
              refine (rooted_calls HLY.out).mono ?_
              rw [b1']
              rintro e w1 ⟨rfl, rfl⟩
              go_wp2_with fail
              refine (aabove_calls H0.out HW.out y p HP.out).mono ?_
              rw [b2']
              rintro e w1 ⟨rfl, rfl⟩
              go_wp2
              go_ret
              rw [HX.out]
              exact ⟨rfl, Turned.of_below H0.out (Below.refl _ _)⟩
            · have b2' : decide (y ∈ over L p) = false := by simpa using b2
              by_cases b3 : (nd L y).parent = 0
              · have b3' : ((nd L y).parent != 0) = false := by simp [b3]
                have hok : badKid2 L p y = false := badKid2_false b1 b2 (fun e => e.1 b3)
                have HOK := Lib.hid hok
                clear b1 b2 b3 hok
                go_wp2_with fail
                refine (at_G H.out HTY.out HOY.out).mono ?_
                rintro e w1 ⟨rfl, rfl⟩
                go_wp2_with fail
                refine (at_G H.out HTY.out HOY.out).mono ?_
                rintro e w1 ⟨rfl, rfl⟩
                go_wp2_with fail
                refine (rooted_calls HLY.out).mono ?_
                rw [b1']
                rintro e w1 ⟨rfl, rfl⟩
                go_wp2_with fail
                refine (aabove_calls H0.out HW.out y p HP.out).mono ?_
                rw [b2']
                rintro e w1 ⟨rfl, rfl⟩
                go_wp2
                go_round
                case rel =>
                  refine ⟨k + 1, by go_num, by omega, fun j hj => ?_⟩
                  by_cases e : j = k
                  · subst e; rw [HY.out]; exact HOK.out
                  · exact HA.out j (by omega)
                case measure => simp [intOf]; omega
              · have b3' : ((nd L y).parent != 0) = true := by simpa using b3
                by_cases b4 : (nd L y).parent = p
                · have b4' : ((nd L y).parent != p) = false := by simpa using b4
                  have hok : badKid2 L p y = false := badKid2_false b1 b2 (fun e => e.2 b4)
                  have HOK := Lib.hid hok
                  clear b1 b2 b3 b4 hok
                  go_wp2_with fail
                  refine (at_G H.out HTY.out HOY.out).mono ?_
                  rintro e w1 ⟨rfl, rfl⟩
                  go_wp2_with fail
                  refine (at_G H.out HTY.out HOY.out).mono ?_
                  rintro e w1 ⟨rfl, rfl⟩
                  go_wp2_with fail
                  refine (rooted_calls HLY.out).mono ?_
                  rw [b1']
                  rintro e w1 ⟨rfl, rfl⟩
                  go_wp2_with fail
                  refine (aabove_calls H0.out HW.out y p HP.out).mono ?_
                  rw [b2']
                  rintro e w1 ⟨rfl, rfl⟩
                  go_wp2
                  go_round
                  case rel =>
                    refine ⟨k + 1, by go_num, by omega, fun j hj => ?_⟩
                    by_cases e : j = k
                    · subst e; rw [HY.out]; exact HOK.out
                    · exact HA.out j (by omega)
                  case measure => simp [intOf]; omega
                · have b4' : ((nd L y).parent != p) = true := by simpa using b4
                  have HX := Lib.hid (HBAD.out (badKid2_true (Or.inr (Or.inr ⟨b3, b4⟩))))
                  clear b1 b2 b3 b4
                  go_wp2_with fail
                  refine (at_G H.out HTY.out HOY.out).mono ?_
                  rintro e w1 ⟨rfl, rfl⟩
                  go_wp2_with fail
                  refine (at_G H.out HTY.out HOY.out).mono ?_
                  rintro e w1 ⟨rfl, rfl⟩
                  go_wp2_with fail
                  refine (rooted_calls HLY.out).mono ?_
                  rw [b1']
                  rintro e w1 ⟨rfl, rfl⟩
                  go_wp2_with fail
                  refine (aabove_calls H0.out HW.out y p HP.out).mono ?_
                  rw [b2']
                  rintro e w1 ⟨rfl, rfl⟩
                  go_wp2
                  go_ret
                  rw [HX.out]
                  exact ⟨rfl, Turned.of_below H0.out (Below.refl _ _)⟩
        · have hE : putE L p l = 0 := putE_ok HP.out HG.out (all_getD fun j hj => HA.out j (by rw [HN.out] at hj; omega))
          have hok := putE_zero hE
          have hv : put L p l = (putL L p l, 0) := by unfold put; rw [hE]; rfl
          have HOK := Lib.hid hok
          have HPV := Lib.hid hv
          clear hE hok hv HA HG
          obtain ⟨kvp, hlp, hkp, hkpS, hkf, hkvp⟩ := H.out.lies HP.out HOP.out
          obtain ⟨ka, kc, rfl⟩ := hkp.shape
          have c8 := hlp.c8
          obtain ⟨old, hold⟩ : ∃ old, (nd L p).kids = old := ⟨_, rfl⟩
          obtain ⟨m, hm⟩ : ∃ m, old.length = m := ⟨_, rfl⟩
          rw [hold, hm] at c8 hkf
          have HK := Lib.hid hkp
          rw [hold, hm] at HK
          have HOLD := Lib.hid hold
          have HM := Lib.hid hm
          have HKV := Lib.hid hkvp
          have HKS := Lib.hid hkpS
          clear hkp hold hm hlp hkvp hkpS
          go_wp2
          go_loopw [78] (fun c wr => ∃ j : Nat, c = I j ∧ j ≤ m ∧ FoG wr hb S (clr L (old.take j)) g cap kvs ∧ Keeps S w wr) (fun c _ => m - (intOf c).toNat)
          case atStart => exact ⟨0, rfl, by omega, by rw [List.take_zero, clr_nil]; exact H.out, Keeps.refl _ _⟩
          case round =>
            obtain ⟨j, rfl, hj, hfo, hke⟩ := hrel
            have HF := Lib.hid hfo
            have HKE := Lib.hid hke
            by_cases hjm : j < m
            · obtain ⟨y, hy⟩ : ∃ y, old.getD j 0 = y := ⟨_, rfl⟩
              have hmem : y ∈ (nd L p).kids := by rw [HOLD.out, ← hy]; exact getD_mem (by rw [HM.out]; exact hjm)
              have hty : there (clr L (old.take j)) y = true := by rw [there_clr]; exact HW.out.there_of_kid hmem
              obtain ⟨kv2, _, hk2, _, _, hkv2⟩ := HF.out.lies (id := p) (by rw [there_clr]; exact HP.out) HOP.out
              have ekv : kv2 = .slice ka (nd L p).kids.length kc := Option.some.inj (hkv2.symm.trans HKV.out)
              rw [ekv, clr_kids, HOLD.out, HM.out] at hk2
              obtain ⟨ao2, cap2, e2, _, _, hp2⟩ := hk2.ints.open
              simp only [Value.slice.injEq] at e2
              obtain ⟨rfl, -, rfl⟩ := e2
              obtain ⟨b2, o2, e3⟩ := hp2 (by rw [HM.out]; omega)
              subst e3
              have hcell := hk2.ints.cellAt j (by rw [HM.out]; exact hjm)
              rw [hy] at hcell
              obtain ⟨offy, hoy⟩ : ∃ off, (y.toNat - 1) * 9 = off := ⟨_, rfl⟩
              obtain ⟨kvy, hly, _, _, _⟩ := HF.out.lies hty hoy
              have y1 := hly.c1
              have yf := hly.free (offy + 1)
              have HY := Lib.hid hy
              have HTY := Lib.hid hty
              have HOY := Lib.hid hoy
              clear hy hmem hty hkv2 ekv hp2 hk2 hoy hly hfo hke
              go_wp2_with fail
              refine (at_G HF.out HTY.out HOY.out).mono ?_
              rintro e w1 ⟨rfl, rfl⟩
              go_wp2
              have hs := HF.out.store HTY.out HOY.out (j := 1) (by omega) (u := I 0) (fun x => { x with parent := 0 }) (fun kv => rfl) rfl
              rw [← HY.out, clr_succ L (by rw [HM.out]; exact hjm)] at hs
              have hks := HKE.out.trans (Keeps.set (p := ⟨g, offy + 1, none⟩) (H.out.rowS g rfl) (I 0))
              go_roundw
              case rel => exact ⟨j + 1, by go_num, by omega, hs, hks⟩
              case measure => simp [intOf]; omega
            · have hjl : j = old.length := by rw [HM.out]; omega
              have hfo2 : FoG wr hb S (clr L old) g cap kvs := by have := HF.out; rwa [hjl, List.take_length] at this
              have HF2 := Lib.hid hfo2
              have hfew2 : L.length ≤ 128 := H.out.few
              clear hjl hfo2 HF hfo hke
              go_wp2
              go_loopw [90] (fun c wr => ∃ j : Nat, c = I j ∧ j ≤ n ∧ FoG wr hb S (setp (clr L old) p (l.take j)) g cap kvs ∧ Keeps S w wr) (fun c _ => n - (intOf c).toNat)
              case atStart => exact ⟨0, rfl, by omega, by rw [List.take_zero, setp_nil]; exact HF2.out, HKE.out⟩
              case round =>
                rename_i wr0
                obtain ⟨i, rfl, hi, hfo, hke⟩ := hrel
                have HF3 := Lib.hid hfo
                have HKE3 := Lib.hid hke
                by_cases hin : i < n
                · obtain ⟨b, off, e⟩ := HSL.out (by rw [HN.out]; omega)
                  subst e
                  have hcell := (HV.out.keep (fun hne k hk hlt => HKE3.out.block k hlt (HS.out hne k hk))).cellAt i (by rw [HN.out]; exact hin)
                  obtain ⟨y, hy⟩ : ∃ y, l.getD i 0 = y := ⟨_, rfl⟩
                  rw [hy] at hcell
                  have hty0 : there L y = true := HOK.out.kids y (by rw [← hy]; exact getD_mem (by rw [HN.out]; exact hin))
                  have hty : there (setp (clr L old) p (l.take i)) y = true := by rw [there_setp, there_clr]; exact hty0
                  obtain ⟨offy, hoy⟩ : ∃ off, (y.toNat - 1) * 9 = off := ⟨_, rfl⟩
                  obtain ⟨kvy, hly, _, _, _⟩ := HF3.out.lies hty hoy
                  have y1 := hly.c1
                  have yf := hly.free (offy + 1)
                  have HY := Lib.hid hy
                  have HTY := Lib.hid hty
                  have HOY := Lib.hid hoy
                  clear hy hty hty0 hoy hly hfo hke
                  go_wp2_with fail
                  refine (at_G HF3.out HTY.out HOY.out).mono ?_
                  rintro e w1 ⟨rfl, rfl⟩
                  go_wp2
                  have hs := HF3.out.store HTY.out HOY.out (j := 1) (by omega) (u := I p) (fun x => { x with parent := p }) (fun kv => rfl) rfl
                  rw [← HY.out, setp_succ _ p (by rw [HN.out]; exact hin)] at hs
                  have hks := HKE3.out.trans (Keeps.set (p := ⟨g, offy + 1, none⟩) (H.out.rowS g rfl) (I p))
                  go_roundw
                  case rel => exact ⟨i + 1, by go_num, by omega, hs, hks⟩
                  case measure => simp [intOf]; omega
                · have hil : i = l.length := by rw [HN.out]; omega
                  have hfo2 : FoG wr hb S (setp (clr L old) p l) g cap kvs := by have := HF3.out; rwa [hil, List.take_length] at this
                  have HF4 := Lib.hid hfo2
                  clear hil hfo2 HF3 hfo hke HF2
                  obtain ⟨kvq, hlq, _, _, _⟩ := HF4.out.lies (id := p) (by rw [there_setp, there_clr]; exact HP.out) HOP.out
                  have q8 := hlq.c8
                  have qf := hlq.free (offp + 8)
                  have hgw : g < wr.heap.size := HF4.out.row.lt g rfl |>.2
                  have HQ := Lib.hid q8
                  have HQF := Lib.hid qf
                  clear hlq q8 qf
                  go_wp2_with (first
                    | ((with_reducible refine makeI rfl (.tmp 103) (.tmp 103) rfl n rfl rfl (by omega) ?_); intro w2 cur hcur hcs hgr hsz; have e8 := (World.cell?_of_block (w := wr) (w' := w2) (a := ⟨g, offp + 8, none⟩) (hgr.block g hgw (by simp))).trans HQ.out; have f8 := (World.frozen?_of_block (w := wr) (w' := w2) (a := ⟨g, offp + 8, none⟩) (hgr.block g hgw (by simp))).trans HQF.out; have HCUR := Lib.hid hcur; have HCS := Lib.hid hcs; have HGR := Lib.hid hgr; go_must (have HVV := Lib.hid (HV.out.keep (w' := w2.setCell ⟨g, offp + 8, none⟩ (.slice (some ⟨wr.heap.size, 0, none⟩) n n)) (fun hnel q hq hlt => by rw [Below.heap_setCell w2 ⟨g, offp + 8, none⟩ _ q (fun e => HS.out hnel q hq (by rw [show q = g from e]; exact H.out.rowS g rfl)), hgr.block q (Nat.lt_of_lt_of_le hlt HKE3.out.size) (by simp)]; exact HKE3.out.block q hlt (HS.out hnel q hq))); have HC3 := Lib.hid (show (w2.setCell ⟨g, offp + 8, none⟩ (.slice (some ⟨wr.heap.size, 0, none⟩) n n)).heap[wr.heap.size]? = some (.cells cur 3 (0, 0)) by rw [Below.heap_setCell _ _ _ _ (show wr.heap.size ≠ g by omega)]; exact hcur); clear hcur hcs hgr))
                    | ((with_reducible refine copyI rfl (.tmp 110) (.tmp 111) rfl wr.heap.size n ?h1 (Value.slice ao n cv) ?h2 l ?h3 HN.out cur ?h5 HCS.out ?h7); (case h1 => rfl); (case h2 => rfl); (case h3 => go_must (exact HVV.out)); (case h5 => go_must (exact HC3.out)); (intro w4 hh hb4); (have HH := Lib.hid hh); (clear hh)))
                  go_ret
                  rw [HPV.out]
                  have e3 : ∀ q, q < wr.heap.size → q ≠ g → w4.heap[q]? = wr.heap[q]? := fun q hq hne => by
                    rw [hb4.block q hq, Below.heap_setCell _ _ _ _ hne, HGR.out.block q hq (by simp)]
                  have hks : OwnI w4 0 (.slice (some ⟨wr.heap.size, 0, none⟩) n n) l := by
                    refine ⟨by simp, Or.inr ⟨wr.heap.size, n, _, ?_, Nat.zero_le _, HH.out, by rw [HN.out]; omega, by unfold maxLen; omega, by simp [HN.out], ?_⟩⟩
                    · rw [HN.out]
                    · show List.take (l.length * 1) (ints l) = ints l
                      exact List.take_of_length_le (by simp)
                  have hfin := HF4.out.setKid (w' := w4) (T := fun q => S q ∨ w.heap.size ≤ q) (id := p) (by rw [there_setp, there_clr]; exact HP.out) HOP.out (.slice (some ⟨wr.heap.size, 0, none⟩) n n) l
                    (by rw [hb4.block g hgw]; exact heap_setCell_same (HGR.out.block g hgw (by simp))) e3 hks
                    (by intro q hq; have : wr.heap.size = q := by simpa [Value.ownBlock] using hq
                        right; have := HKE3.out.size; omega) (fun q _ hq => Or.inl hq) (nodup_len HOK.out.nodup fun x hx => by have := there_iff.1 (HOK.out.kids x hx); have := H.out.few; omega)
                  refine ⟨rfl, ?_, ?_⟩
                  · rw [putL_steps HW.out HP.out, HOLD.out]
                    exact ⟨_, _, hfin⟩
                  · have q1 := (HKE3.out.trans (Keeps.grown HGR.out (by intro _ h; cases h))).trans (Keeps.set (p := ⟨g, offp + 8, none⟩) (H.out.rowS g rfl) (.slice (some ⟨wr.heap.size, 0, none⟩) n n))
                    exact q1.then_below hb4 HKE3.out.size

theorem put_calls {w : World} {hb : Nat} {S : Nat → Prop} {L : Fo} (h : FoAt w hb S L) (hW : WF L) (p : Int) (v : Value) (l : List Int) (hv : IntsAt w v l) (hl : l.length ≤ 100000)
    (hS : l ≠ [] → ∀ k, sliceBlock v = some k → ¬ S k) :
    Calls Try.prog 77 #[.pointer (some ⟨hb, 0, none⟩), I p, v] w fun e w' => e = .returned (I (put L p l).2) ∧ Turned w w' hb S (put L p l).1 := by
  cases hp : there L p with
  | true => exact put_there h hW p hp v l hv hl hS
  | false => exact put_none h p hp v l

end Go.Proofs.Ytidekbamlnpglaa

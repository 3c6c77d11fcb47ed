/-
  The walks of the arena's rooted, Tie.
-/
import Derived.Test.YtidekbamlnpglaaWg
import Derived.Test.YtidekbamlnpglaaPd
namespace Go.Proofs.Ytidekbamlnpglaa
open Go.RowKit Tc

set_option maxHeartbeats 400000 in
theorem rooted_calls {w : World} {g off : Nat} {x : Nd} {kv : Value} (h : Lies w g off x kv) :
    Calls Try.prog 126 #[.pointer (some ⟨g, off, none⟩)] w fun e w' => e = .returned (.bool (decide (x.kind = 1 ∨ x.kind = 3))) ∧ w = w' := by
  have c0 := h.c0
  clear h
  by_cases h1 : x.kind = 1
  · have e : decide (x.kind = 1 ∨ x.kind = 3) = true := by simp [h1]
    rw [e]
    have q : (x.kind == 1) = true := by simp [h1]
    clear e h1
    go_enter Try.func126, Try.ntmps126
    go_wp2
    go_ret
    exact ⟨rfl, rfl⟩
  · have q : (x.kind == 1) = false := by simpa using h1
    by_cases h3 : x.kind = 3
    · have e : decide (x.kind = 1 ∨ x.kind = 3) = true := by simp [h3]
      rw [e]
      have q3 : (x.kind == 3) = true := by simp [h3]
      clear e h1 h3
      go_enter Try.func126, Try.ntmps126
      go_wp2
      go_ret
      exact ⟨rfl, rfl⟩
    · have e : decide (x.kind = 1 ∨ x.kind = 3) = false := by simp [h1, h3]
      rw [e]
      have q3 : (x.kind == 3) = false := by simpa using h3
      clear e h1 h3
      go_enter Try.func126, Try.ntmps126
      go_wp2
      go_ret
      exact ⟨rfl, rfl⟩

set_option maxRecDepth 100000 in
set_option maxHeartbeats 1600000 in
theorem tie_calls {w : World} {hb : Nat} {S : Nat → Prop} {L : Fo} (h : FoAt w hb S L) (hW : WF L) (a r : Int) :
    Calls Try.prog 80 #[.pointer (some ⟨hb, 0, none⟩), I a, I r] w fun e w' => e = .returned (I (tie L a r).2) ∧ Turned w w' hb S (tie L a r).1 := by
  have H0 := Lib.hid h
  by_cases ha : there L a = true
  · by_cases hr : there L r = true
    · obtain ⟨g, cap, kvs, hg⟩ := h.openG ha
      obtain ⟨offa, hoa⟩ : ∃ off, (a.toNat - 1) * 9 = off := ⟨_, rfl⟩
      obtain ⟨offr, hor⟩ : ∃ off, (r.toNat - 1) * 9 = off := ⟨_, rfl⟩
      obtain ⟨kva, hla, _, _, _⟩ := hg.lies ha hoa
      obtain ⟨kvr, hlr, _, _, _⟩ := hg.lies hr hor
      have a0 := hla.c0
      have a3 := hla.c3
      have r0 := hlr.c0
      have r2 := hlr.c2
      have fa := hla.free (offa + 3)
      have fr := hlr.free (offr + 2)
      have HA := Lib.hid ha
      have HR := Lib.hid hr
      have HOA := Lib.hid hoa
      have HOR := Lib.hid hor
      have H := Lib.hid hg
      have HW := Lib.hid hW
      obtain ⟨x, hx⟩ : ∃ x, nd L a = x := ⟨_, rfl⟩
      obtain ⟨y, hy⟩ : ∃ y, nd L r = y := ⟨_, rfl⟩
      rw [hx] at a0 a3
      rw [hy] at r0 r2
      by_cases k1 : x.kind = 2
      · have q1 : (x.kind != 2) = false := by simp [k1]
        by_cases k2 : y.kind = 3
        · have q2 : (y.kind != 3) = false := by simp [k2]
          by_cases k3 : x.shadow = 0
          · have q3 : (x.shadow != 0) = false := by simp [k3]
            by_cases k4 : y.host = 0
            · have q4 : (y.host != 0) = false := by simp [k4]
              by_cases k5 : r ∈ over L a
              · have q5 : decide (r ∈ over L a) = true := by simpa using k5
                have hv : tie L a r = (L, 3) := by
                  have hE : tieE L a r = 3 := by
                    unfold tieE
                    rw [if_neg (by rw [ha, hr]; simp), if_neg (by rw [hx, hy, k1, k2]; simp), if_neg (by unfold hst; rw [hx, hy, k3, k4]; simp), if_pos k5]
                  unfold tie; rw [hE]; rfl
                have HV := Lib.hid hv
                clear hv k1 k2 k3 k4 k5 hla hlr ha hr hoa hor hg hW hx hy h
                go_enter Try.func80, Try.ntmps80
                go_wp2_with fail
                refine (at_G H.out HA.out HOA.out).mono ?_
                rintro e w1 ⟨rfl, rfl⟩
                go_wp2_with fail
                refine (at_G H.out HR.out HOR.out).mono ?_
                rintro e w1 ⟨rfl, rfl⟩
                go_wp2_with fail
                refine (aabove_calls H0.out HW.out r a HA.out).mono ?_
                rw [q5]
                rintro e w1 ⟨rfl, rfl⟩
                go_wp2
                go_ret
                rw [HV.out]
                exact ⟨rfl, Turned.of_below H0.out (Below.refl _ _)⟩
              · have q5 : decide (r ∈ over L a) = false := by simpa using k5
                have hne : a ≠ r := fun e => by rw [← e] at hy; rw [hx] at hy; subst hy; omega
                have hv : tie L a r = (updN (updN L a fun x => { x with shadow := r }) r fun x => { x with host := a }, 0) := by
                  have hE : tieE L a r = 0 := by
                    unfold tieE
                    rw [if_neg (by rw [ha, hr]; simp), if_neg (by rw [hx, hy, k1, k2]; simp), if_neg (by unfold hst; rw [hx, hy, k3, k4]; simp), if_neg k5]
                  unfold tie; rw [hE, tie_upd ha hr hne]; rfl
                have hoff : offa + 3 ≠ offr + 2 := by
                  have h1 := there_iff.1 ha
                  have h2 := there_iff.1 hr
                  omega
                have HV := Lib.hid hv
                have HNE := Lib.hid hne
                clear hv k1 k2 k3 k4 k5 hla hlr ha hr hoa hor hg hW hx hy h hne
                go_enter Try.func80, Try.ntmps80
                go_wp2_with fail
                refine (at_G H.out HA.out HOA.out).mono ?_
                rintro e w1 ⟨rfl, rfl⟩
                go_wp2_with fail
                refine (at_G H.out HR.out HOR.out).mono ?_
                rintro e w1 ⟨rfl, rfl⟩
                go_wp2_with fail
                refine (aabove_calls H0.out HW.out r a HA.out).mono ?_
                rw [q5]
                rintro e w1 ⟨rfl, rfl⟩
                go_wp2
                go_ret
                rw [HV.out]
                have h1 := H.out.store HA.out HOA.out (j := 3) (by omega) (u := I r) (fun x => { x with shadow := r }) (fun kv => rfl) rfl
                have h2 := FoIn.store (id := r) h1 (by rw [there_updN]; exact HR.out) HOR.out (j := 2) (by omega) (u := I a) (fun x => { x with host := a }) (fun kv => rfl) rfl
                refine ⟨rfl, (show FoAt _ hb S _ from ⟨_, _, h2⟩).mono fun _ _ hk => Or.inl hk, ?_⟩
                exact (Keeps.set (p := ⟨g, offa + 3, none⟩) (H.out.rowS g rfl) _).trans (Keeps.set (p := ⟨g, offr + 2, none⟩) (H.out.rowS g rfl) _)
            · have q4 : (y.host != 0) = true := by simpa using k4
              have hv : tie L a r = (L, 6) := by
                have hE : tieE L a r = 6 := by
                  unfold tieE
                  rw [if_neg (by rw [ha, hr]; simp), if_neg (by rw [hx, hy, k1, k2]; simp), if_pos (by unfold hst; rw [hy]; exact Or.inr k4)]
                unfold tie; rw [hE]; rfl
              have HV := Lib.hid hv
              clear hv k1 k2 k3 k4 hla hlr ha hr hoa hor hg hW hx hy h
              go_enter Try.func80, Try.ntmps80
              go_wp2_with fail
              refine (at_G H.out HA.out HOA.out).mono ?_
              rintro e w1 ⟨rfl, rfl⟩
              go_wp2_with fail
              refine (at_G H.out HR.out HOR.out).mono ?_
              rintro e w1 ⟨rfl, rfl⟩
              go_wp2
              go_ret
              rw [HV.out]
              exact ⟨rfl, Turned.of_below H0.out (Below.refl _ _)⟩
          · have q3 : (x.shadow != 0) = true := by simpa using k3
            have hv : tie L a r = (L, 6) := by
              have hE : tieE L a r = 6 := by
                unfold tieE
                rw [if_neg (by rw [ha, hr]; simp), if_neg (by rw [hx, hy, k1, k2]; simp), if_pos (by rw [hx]; exact Or.inl k3)]
              unfold tie; rw [hE]; rfl
            have HV := Lib.hid hv
            clear hv k1 k2 k3 hla hlr ha hr hoa hor hg hW hx hy h
            go_enter Try.func80, Try.ntmps80
            go_wp2_with fail
            refine (at_G H.out HA.out HOA.out).mono ?_
            rintro e w1 ⟨rfl, rfl⟩
            go_wp2_with fail
            refine (at_G H.out HR.out HOR.out).mono ?_
            rintro e w1 ⟨rfl, rfl⟩
            go_wp2
            go_ret
            rw [HV.out]
            exact ⟨rfl, Turned.of_below H0.out (Below.refl _ _)⟩
        · have q2 : (y.kind != 3) = true := by simpa using k2
          have hv : tie L a r = (L, 2) := by
            have hE : tieE L a r = 2 := by
              unfold tieE
              rw [if_neg (by rw [ha, hr]; simp), if_pos (by rw [hy]; exact Or.inr k2)]
            unfold tie; rw [hE]; rfl
          have HV := Lib.hid hv
          clear hv k1 k2 hla hlr ha hr hoa hor hg hW hx hy h
          go_enter Try.func80, Try.ntmps80
          go_wp2_with fail
          refine (at_G H.out HA.out HOA.out).mono ?_
          rintro e w1 ⟨rfl, rfl⟩
          go_wp2_with fail
          refine (at_G H.out HR.out HOR.out).mono ?_
          rintro e w1 ⟨rfl, rfl⟩
          go_wp2
          go_ret
          rw [HV.out]
          exact ⟨rfl, Turned.of_below H0.out (Below.refl _ _)⟩
      · have q1 : (x.kind != 2) = true := by simpa using k1
        have hv : tie L a r = (L, 2) := by
          have hE : tieE L a r = 2 := by
            unfold tieE
            rw [if_neg (by rw [ha, hr]; simp), if_pos (by rw [hx]; exact Or.inl k1)]
          unfold tie; rw [hE]; rfl
        have HV := Lib.hid hv
        clear hv k1 hla hlr ha hr hoa hor hg hW hx hy h
        go_enter Try.func80, Try.ntmps80
        go_wp2_with fail
        refine (at_G H.out HA.out HOA.out).mono ?_
        rintro e w1 ⟨rfl, rfl⟩
        go_wp2_with fail
        refine (at_G H.out HR.out HOR.out).mono ?_
        rintro e w1 ⟨rfl, rfl⟩
        go_wp2
        go_ret
        rw [HV.out]
        exact ⟨rfl, Turned.of_below H0.out (Below.refl _ _)⟩
    · have hr' : there L r = false := by simpa using hr
      have hv : tie L a r = (L, 1) := by
        have hE : tieE L a r = 1 := by unfold tieE; rw [if_pos (Or.inr hr')]
        unfold tie; rw [hE]; rfl
      obtain ⟨g, cap, kvs, hg⟩ := h.openG ha
      have H := Lib.hid hg
      have HA := Lib.hid ha
      have HR := Lib.hid (there_false.1 hr')
      have HV := Lib.hid hv
      obtain ⟨offa, hoa⟩ : ∃ off, (a.toNat - 1) * 9 = off := ⟨_, rfl⟩
      have HOA := Lib.hid hoa
      clear hv hr hr' ha hg h hoa hW
      go_enter Try.func80, Try.ntmps80
      go_wp2_with fail
      refine (at_G H.out HA.out HOA.out).mono ?_
      rintro e w1 ⟨rfl, rfl⟩
      go_wp2_with fail
      refine (at_out H0.out r HR.out).mono ?_
      rintro e w1 ⟨rfl, rfl⟩
      go_wp2
      go_ret
      rw [HV.out]
      exact ⟨rfl, Turned.of_below H0.out (Below.refl _ _)⟩
  · have ha' : there L a = false := by simpa using ha
    have hv : tie L a r = (L, 1) := by
      have hE : tieE L a r = 1 := by unfold tieE; rw [if_pos (Or.inl ha')]
      unfold tie; rw [hE]; rfl
    have HA := Lib.hid (there_false.1 ha')
    have HV := Lib.hid hv
    clear hv ha ha' h hW
    go_enter Try.func80, Try.ntmps80
    go_wp2_with fail
    refine (at_out H0.out a HA.out).mono ?_
    rintro e w1 ⟨rfl, rfl⟩
    go_wp2_with fail
    refine (at_any H0.out r).mono ?_
    rintro e w1 ⟨p, rfl, rfl⟩
    go_wp2
    go_ret
    rw [HV.out]
    exact ⟨rfl, Turned.of_below H0.out (Below.refl _ _)⟩

end Go.Proofs.Ytidekbamlnpglaa

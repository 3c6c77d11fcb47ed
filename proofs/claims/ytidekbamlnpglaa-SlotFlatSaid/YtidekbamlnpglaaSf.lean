/-
  The walks of slot's shown and Flat.
-/
import Derived.Test.YtidekbamlnpglaaSe
import Derived.Test.YtidekbamlnpglaaPt
import Derived.BigRegion
namespace Go.Proofs.Ytidekbamlnpglaa
open Go.RowKit Tc

set_option maxRecDepth 100000 in
set_option maxHeartbeats 1600000 in
theorem shown_calls {w : World} {hb : Nat} {S : Nat → Prop} {L : Fo} (h : FoAt w hb S L) (hW : WF L) (id : Int) :
    Calls Try.prog 98 #[ptr hb, I id] w fun e w' => ∃ ka kc, e = .returned (.tuple #[ndVal (nd L id) (.slice ka (nd L id).kids.length kc), .bool (shownB L id)]) ∧ OwnI w' w.heap.size (.slice ka (nd L id).kids.length kc) (nd L id).kids ∧ Below w.heap.size w w' := by
  obtain ⟨r, hr⟩ : ∃ r, root L id = r := ⟨_, rfl⟩
  obtain ⟨x, hx⟩ : ∃ x, nd L id = x := ⟨_, rfl⟩
  obtain ⟨y, hy⟩ : ∃ y, nd L r = y := ⟨_, rfl⟩
  have he : shownB L id = (x.slot && (y.kind == 3)) := by
    unfold shownB
    rw [hx, hr, hy]
    by_cases e : y.kind = 3 <;> simp [e]
  rw [he, hx]
  have H := Lib.hid h
  have HW := Lib.hid hW
  have HR := Lib.hid hr
  have HX := Lib.hid hx
  have HY := Lib.hid hy
  have HE := Lib.hid he
  clear h hW hr hx hy he
  obtain ⟨xk, xp, xh, xs, xm, sl, xn, xw, xkids⟩ := x
  cases sl
  · go_enter Try.func98, Try.ntmps98
    go_wp2_with fail
    refine (node_calls (H.out.below (below1 _ _)) id).mono ?_
    rw [HX.out]
    rintro e w1 ⟨ka, kc, rfl, ho, hb1⟩
    have HO1 := Lib.hid ho
    have HB1 := Lib.hid hb1
    clear ho hb1
    go_wp2_with fail
    refine (root_calls (H.out.below (Below.step (Below.step (below1 _ _) HB1.out) (below1 _ _))) HW.out.ends id).mono ?_
    rw [HR.out]
    rintro e w2 ⟨rfl, hb2⟩
    have HB2 := Lib.hid hb2
    clear hb2
    go_wp2_with fail
    refine (node_calls (H.out.below (Below.step (Below.step (Below.step (below1 _ _) HB1.out) (below1 _ _)) HB2.out)) r).mono ?_
    rw [HY.out]
    rintro e w3 ⟨ka3, kc3, rfl, _, hb3⟩
    have HB3 := Lib.hid hb3
    clear hb3
    have hz2 := ((((ZN.new (w := w) rfl).below HB1.out).below (below1 _ _)).below HB2.out).below HB3.out
    obtain ⟨k0, k1, k2, k3, k4, k5, k6, k7, k8, q0, q1, q2, q3, q4, q5, q6, q7, q8⟩ := hz2.facts
    have zl := hz2.lt
    have c0 := cell_go HB3.out (cell_go HB2.out (cell_new (o := 0) (v := I xk) rfl rfl))
    have c1 := cell_go HB3.out (cell_go HB2.out (cell_new (o := 1) (v := I xp) rfl rfl))
    have c2 := cell_go HB3.out (cell_go HB2.out (cell_new (o := 2) (v := I xh) rfl rfl))
    have c3 := cell_go HB3.out (cell_go HB2.out (cell_new (o := 3) (v := I xs) rfl rfl))
    have c4 := cell_go HB3.out (cell_go HB2.out (cell_new (o := 4) (v := I xm) rfl rfl))
    have c5 := cell_go HB3.out (cell_go HB2.out (cell_new (o := 5) (v := .bool false) rfl rfl))
    have c6 := cell_go HB3.out (cell_go HB2.out (cell_new (o := 6) (v := .string xn) rfl rfl))
    have c7 := cell_go HB3.out (cell_go HB2.out (cell_new (o := 7) (v := .string xw) rfl rfl))
    have c8 := cell_go HB3.out (cell_go HB2.out (cell_new (o := 8) (v := .slice ka xkids.length kc) rfl rfl))
    have zc := cell_lt c0
    clear hz2
    go_wp2_with fail
    go_region
    go_wp2
    refine bodyPost_ret (v := .tuple #[ndVal { kind := xk, parent := xp, host := xh, shadow := xs, mode := xm, slot := false, name := xn, want := xw, kids := xkids } (.slice ka xkids.length kc), .bool false]) (by simp [results, Try.results98, go_sem, k0, k1, k2, k3, k4, k5, k6, k7, k8, zl, Nat.ne_of_lt zl]) rfl ⟨ka, kc, rfl, ?_, ?_⟩
    · refine ownsRow_below ?_ (below_da _ _)
      refine ownsRow_base (base := w.heap.size + 1) ?_ (by omega)
      repeat (with_reducible refine ownsRow_setCell_below ?_ (show w.heap.size < w.heap.size + 1 by omega) _)
      exact ownsRow_base (ownI_below (ownI_below (ownI_below HO1.out (below1 _ _)) HB2.out) HB3.out) (by simp)
    · refine below_drew (below_alloc ?_)
      repeat (with_reducible refine below_set ?_ (by omega))
      exact Below.step (Below.step (Below.step (Below.step (below1 _ _) HB1.out) (below1 _ _)) HB2.out) HB3.out
  · go_enter Try.func98, Try.ntmps98
    go_wp2_with fail
    refine (node_calls (H.out.below (below1 _ _)) id).mono ?_
    rw [HX.out]
    rintro e w1 ⟨ka, kc, rfl, ho, hb1⟩
    have HO1 := Lib.hid ho
    have HB1 := Lib.hid hb1
    clear ho hb1
    go_wp2_with fail
    refine (root_calls (H.out.below (Below.step (Below.step (below1 _ _) HB1.out) (below1 _ _))) HW.out.ends id).mono ?_
    rw [HR.out]
    rintro e w2 ⟨rfl, hb2⟩
    have HB2 := Lib.hid hb2
    clear hb2
    go_wp2_with fail
    refine (node_calls (H.out.below (Below.step (Below.step (Below.step (below1 _ _) HB1.out) (below1 _ _)) HB2.out)) r).mono ?_
    rw [HY.out]
    rintro e w3 ⟨ka3, kc3, rfl, _, hb3⟩
    have HB3 := Lib.hid hb3
    clear hb3
    have hz2 := ((((ZN.new (w := w) rfl).below HB1.out).below (below1 _ _)).below HB2.out).below HB3.out
    obtain ⟨k0, k1, k2, k3, k4, k5, k6, k7, k8, q0, q1, q2, q3, q4, q5, q6, q7, q8⟩ := hz2.facts
    have zl := hz2.lt
    have c0 := cell_go HB3.out (cell_go HB2.out (cell_new (o := 0) (v := I xk) rfl rfl))
    have c1 := cell_go HB3.out (cell_go HB2.out (cell_new (o := 1) (v := I xp) rfl rfl))
    have c2 := cell_go HB3.out (cell_go HB2.out (cell_new (o := 2) (v := I xh) rfl rfl))
    have c3 := cell_go HB3.out (cell_go HB2.out (cell_new (o := 3) (v := I xs) rfl rfl))
    have c4 := cell_go HB3.out (cell_go HB2.out (cell_new (o := 4) (v := I xm) rfl rfl))
    have c5 := cell_go HB3.out (cell_go HB2.out (cell_new (o := 5) (v := .bool true) rfl rfl))
    have c6 := cell_go HB3.out (cell_go HB2.out (cell_new (o := 6) (v := .string xn) rfl rfl))
    have c7 := cell_go HB3.out (cell_go HB2.out (cell_new (o := 7) (v := .string xw) rfl rfl))
    have c8 := cell_go HB3.out (cell_go HB2.out (cell_new (o := 8) (v := .slice ka xkids.length kc) rfl rfl))
    have zc := cell_lt c0
    clear hz2
    go_wp2_with fail
    go_region
    go_wp2
    refine bodyPost_ret (v := .tuple #[ndVal { kind := xk, parent := xp, host := xh, shadow := xs, mode := xm, slot := true, name := xn, want := xw, kids := xkids } (.slice ka xkids.length kc), .bool (y.kind == 3)]) (by simp [results, Try.results98, go_sem, k0, k1, k2, k3, k4, k5, k6, k7, k8, zl, Nat.ne_of_lt zl]) rfl ⟨ka, kc, rfl, ?_, ?_⟩
    · refine ownsRow_below ?_ (below_da _ _)
      refine ownsRow_base (base := w.heap.size + 1) ?_ (by omega)
      repeat (with_reducible refine ownsRow_setCell_below ?_ (show w.heap.size < w.heap.size + 1 by omega) _)
      exact ownsRow_base (ownI_below (ownI_below (ownI_below HO1.out (below1 _ _)) HB2.out) HB3.out) (by simp)
    · refine below_drew (below_alloc ?_)
      repeat (with_reducible refine below_set ?_ (by omega))
      exact Below.step (Below.step (Below.step (Below.step (below1 _ _) HB1.out) (below1 _ _)) HB2.out) HB3.out
end Go.Proofs.Ytidekbamlnpglaa

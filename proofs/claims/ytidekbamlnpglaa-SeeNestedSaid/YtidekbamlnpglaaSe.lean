/-
  The walks of slot's Assigned, shown and Flat.
-/
import Derived.Test.YtidekbamlnpglaaSd
import Derived.Deep.RegionHeld3
import Derived.Deep.DeepCutAuto
namespace Go.Proofs.Ytidekbamlnpglaa
open Go.RowKit Tc

theorem cell_go {w w' : World} {b o : Nat} {v : Value} (hb : Below w.heap.size w w') (h : w.cell? ⟨b, o, none⟩ = some v) : w'.cell? ⟨b, o, none⟩ = some v := (hb.cell (p := ⟨b, o, none⟩) (World.block_lt_of_cell? _ _ h)).trans h
theorem cell_lt {w : World} {b o : Nat} {v : Value} (h : w.cell? ⟨b, o, none⟩ = some v) : b < w.heap.size := World.block_lt_of_cell? _ _ h

theorem below_set {B : Nat} {w w' : World} {g o : Nat} {u : Value} (hb : Below B w w') (hg : B ≤ g) : Below B w (w'.setCell ⟨g, o, none⟩ u) := hb.setCell hg u
theorem cell_set {w : World} {b o g j : Nat} {u v : Value} (h : w.cell? ⟨b, o, none⟩ = some v) (hne : b ≠ g) : (w.setCell ⟨g, j, none⟩ u).cell? ⟨b, o, none⟩ = some v :=
  (World.cell?_of_block (w := w) (a := ⟨b, o, none⟩) (Below.heap_setCell _ _ _ _ hne)).trans h
theorem cell_off {w : World} {g o j : Nat} {u v : Value} (h : w.cell? ⟨g, o, none⟩ = some v) (hne : o ≠ j) : (w.setCell ⟨g, j, none⟩ u).cell? ⟨g, o, none⟩ = some v :=
  (World.cell?_setCell_other _ _ _ _ (by intro e; cases e; exact hne rfl)).trans h
theorem cell_hit {w : World} {g o : Nat} {u v : Value} (h : w.cell? ⟨g, o, none⟩ = some v) : (w.setCell ⟨g, o, none⟩ u).cell? ⟨g, o, none⟩ = some u := World.cell?_setCell_same _ _ _ h
theorem cell_alloc {w : World} {b o : Nat} {v : Value} {ob : Obj} (h : w.cell? ⟨b, o, none⟩ = some v) : (w.alloc ob).cell? ⟨b, o, none⟩ = some v := cell_go (below1 w ob) h
theorem cell_drew {w : World} {b o : Nat} {v : Value} (h : w.cell? ⟨b, o, none⟩ = some v) : w.drew.cell? ⟨b, o, none⟩ = some v := h
theorem cell_new {w : World} {g o : Nat} {v : Value} {cs : Array Value} {t : TypeId} (hg : g = w.heap.size) (hv : cs[o]? = some v) : (w.alloc (.cells cs t)).cell? ⟨g, o, none⟩ = some v := (World.cell?_alloc_at _ _ _ _ hg).trans hv
theorem below_alloc {w w' : World} {ob : Obj} (h : Below w.heap.size w w') : Below w.heap.size w (w'.alloc ob) := Below.step h (below1 _ _)
theorem below_drew {w w' : World} (h : Below w.heap.size w w') : Below w.heap.size w w'.drew := h.drew
/-- A node that was just made, and not yet written. -/
structure ZN (w : World) (g : Nat) : Prop where
  whole : w.heap[g]? = some (.cells #[I 0, I 0, I 0, I 0, I 0, .bool false, .string ByteArray.empty, .string ByteArray.empty, .slice none 0 0] 29 (0, 0))
theorem ZN.new {w : World} {g : Nat} (hg : g = w.heap.size) : ZN (w.alloc (.cells #[I 0, I 0, I 0, I 0, I 0, .bool false, .string ByteArray.empty, .string ByteArray.empty, .slice none 0 0] 29)) g := by
  subst hg; exact ⟨alloc_top _ _ _⟩
theorem ZN.new' {w : World} {g : Nat} (hg : g = w.heap.size) : ZN (w.alloc (.cells #[I 0, I 0, I 0, I 0, I 0, .bool false, .string ByteArray.empty, .string ByteArray.empty, .slice none 0 0] 29)).drew g := ⟨(ZN.new hg).whole⟩
theorem ZN.lt {w : World} {g : Nat} (h : ZN w g) : g < w.heap.size := lt_of_block h.whole
theorem ZN.below {w w' : World} {g : Nat} (h : ZN w g) (hb : Below w.heap.size w w') : ZN w' g := ⟨(hb.block g h.lt).trans h.whole⟩

theorem ZN.goA {w w' : World} {g : Nat} (hb : Below (w.alloc (.cells #[I 0, I 0, I 0, I 0, I 0, .bool false, .string ByteArray.empty, .string ByteArray.empty, .slice none 0 0] 29)).drew.heap.size (w.alloc (.cells #[I 0, I 0, I 0, I 0, I 0, .bool false, .string ByteArray.empty, .string ByteArray.empty, .slice none 0 0] 29)).drew w') (hg : g = w.heap.size) : ZN w' g := (ZN.new' hg).below hb
theorem ZN.goB {w w' : World} {g : Nat} (hb : Below (w.alloc (.cells #[I 0, I 0, I 0, I 0, I 0, .bool false, .string ByteArray.empty, .string ByteArray.empty, .slice none 0 0] 29)).heap.size (w.alloc (.cells #[I 0, I 0, I 0, I 0, I 0, .bool false, .string ByteArray.empty, .string ByteArray.empty, .slice none 0 0] 29)) w') (hg : g = w.heap.size) : ZN w' g := (ZN.new hg).below hb
theorem ZN.facts {w : World} {g : Nat} (h : ZN w g) : w.cell? ⟨g, 0, none⟩ = some (I 0) ∧ w.cell? ⟨g, 1, none⟩ = some (I 0) ∧ w.cell? ⟨g, 2, none⟩ = some (I 0) ∧ w.cell? ⟨g, 3, none⟩ = some (I 0) ∧ w.cell? ⟨g, 4, none⟩ = some (I 0) ∧ w.cell? ⟨g, 5, none⟩ = some (.bool false) ∧ w.cell? ⟨g, 6, none⟩ = some (.string ByteArray.empty) ∧ w.cell? ⟨g, 7, none⟩ = some (.string ByteArray.empty) ∧ w.cell? ⟨g, 8, none⟩ = some (.slice none 0 0) ∧ w.frozen? ⟨g, 0, none⟩ = false ∧ w.frozen? ⟨g, 1, none⟩ = false ∧ w.frozen? ⟨g, 2, none⟩ = false ∧ w.frozen? ⟨g, 3, none⟩ = false ∧ w.frozen? ⟨g, 4, none⟩ = false ∧ w.frozen? ⟨g, 5, none⟩ = false ∧ w.frozen? ⟨g, 6, none⟩ = false ∧ w.frozen? ⟨g, 7, none⟩ = false ∧ w.frozen? ⟨g, 8, none⟩ = false := by
  have q := h.whole
  unfold World.cell? World.frozen?
  simp only [q]
  exact ⟨rfl, rfl, rfl, rfl, rfl, rfl, rfl, rfl, rfl, rfl, rfl, rfl, rfl, rfl, rfl, rfl, rfl, rfl⟩

theorem enA : EntersF 93 := Go.Proofs.enters_of Try.func93 (by kernel_rfl) rfl

set_option maxRecDepth 100000 in
set_option maxHeartbeats 800000 in
theorem assigned1_on {w : World} {hb b : Nat} {S : Nat → Prop} {L : Fo} (h : FoAt w hb S L) (hW : WF L) (slot : Int) (c0 : w.cell? ⟨b, 0, none⟩ = some (ptr hb)) (c1 : w.cell? ⟨b + 1, 0, none⟩ = some (I slot)) :
    IsOn w L 93 #[ptr b, ptr (b + 1)] (fun id => slotOf L id == slot) := by
  intro w' hb' id ka kc _
  have d0 := (hb'.cell (p := ⟨b, 0, none⟩) (World.block_lt_of_cell? _ _ c0)).trans c0
  have d1 := (hb'.cell (p := ⟨b + 1, 0, none⟩) (World.block_lt_of_cell? _ _ c1)).trans c1
  have l0 := World.block_lt_of_cell? _ _ d0
  have l1 := World.block_lt_of_cell? _ _ d1
  simp only at l0 l1
  have H := Lib.hid (h.below hb')
  have HW := Lib.hid hW
  obtain ⟨x, hx⟩ : ∃ x, slotOf L id = x := ⟨_, rfl⟩
  have HX := Lib.hid hx
  show Calls Try.prog 93 #[I id, ndVal (nd L id) (.slice ka (nd L id).kids.length kc), ptr b, ptr (b + 1)] w' _
  simp only [hx]
  clear h hb' hW c0 c1 hx
  go_enter Try.func93, Try.ntmps93
  go_wp2_with fail
  go_region_held3 (fun w2 => w2.cell? ⟨b, 0, none⟩ = some (ptr hb) ∧ w2.cell? ⟨b + 1, 0, none⟩ = some (I slot) ∧ Below w'.heap.size w' w2) (((try dsimp only); (repeat' apply And.intro) <;> (repeat (first | (with_reducible assumption) | (with_reducible exact Below.refl _ _) | (with_reducible refine cell_set ?_ (by omega)) | (with_reducible refine cell_new (by simp) rfl) | (with_reducible refine cell_alloc ?_) | (with_reducible refine cell_drew ?_) | (with_reducible refine below_set ?_ (by omega)) | (with_reducible refine below_alloc ?_) | (with_reducible refine below_drew ?_) | fail))))
    ((go_at_call 37; refine (of_calls (H.out.below (‹_ ∧ _ ∧ Below _ _ _›).2.2) HW.out id).mono ?_; rw [HX.out]; rintro e w1 ⟨rfl, hb1⟩; have B1 := Below.step (‹_ ∧ _ ∧ Below _ _ _›).2.2 hb1; have e0 := (B1.cell (p := ⟨b, 0, none⟩) l0).trans d0; have e1 := (B1.cell (p := ⟨b + 1, 0, none⟩) l1).trans d1))
  all_goals go_wp2
  go_ret
  exact ⟨rfl, by assumption⟩

set_option maxRecDepth 100000 in
set_option maxHeartbeats 1600000 in
theorem assigned_calls {w : World} {hb : Nat} {S : Nat → Prop} {L : Fo} (h : FoAt w hb S L) (hW : WF L) (slot : Int) :
    Calls Try.prog 39 #[ptr hb, I slot] w fun e w' => ∃ v, e = .returned v ∧ OwnI w' w.heap.size v (assigned L slot) ∧ Below w.heap.size w w' := by
  obtain ⟨r, hr⟩ : ∃ r, root L slot = r := ⟨_, rfl⟩
  obtain ⟨x, hx⟩ : ∃ x, nd L r = x := ⟨_, rfl⟩
  obtain ⟨y, hy⟩ : ∃ y, nd L x.host = y := ⟨_, rfl⟩
  obtain ⟨z, hz⟩ : ∃ z, there L x.host = z := ⟨_, rfl⟩
  have he : assigned L slot = if z = false then [] else y.kids.filter fun q => there L q && (slotOf L q == slot) := by
    unfold assigned
    have e : hst L (root L slot) = x.host := by rw [hr]; unfold hst; rw [hx]
    rw [e, hz, hy]
    congr 1
    refine List.filter_congr fun q hq => ?_
    rw [hW.there_of_kid (p := x.host) (by rw [hy]; exact hq), Bool.true_and]
    by_cases e : slotOf L q = slot <;> simp [e]
  have hlen : y.kids.length ≤ 128 := by rw [← hy]; exact Nat.le_trans (hW.kids_len _) hW.len
  have hcr : there L r = z → True := fun _ => trivial
  have H := Lib.hid h
  have HW := Lib.hid hW
  have HR := Lib.hid hr
  have HX := Lib.hid hx
  have HY := Lib.hid hy
  have HZ := Lib.hid hz
  have HE := Lib.hid he
  have HLEN := Lib.hid hlen
  clear h hW hr hx hy hz he hlen
  clear hcr
  rw [HE.out]
  obtain ⟨R, hRR⟩ : ∃ R, (if z = false then [] else y.kids.filter fun q => there L q && (slotOf L q == slot)) = R := ⟨_, rfl⟩
  rw [hRR]
  have HRR := Lib.hid hRR
  clear hRR
  go_enter Try.func39, Try.ntmps39
  go_upto_region 1 with fail
  go_cut [5] (fun s5 wx => ∃ g : Nat, s5 = .pointer (some ⟨g, 0, none⟩) ∧ wx.cell? ⟨g, 2, none⟩ = some (I x.host) ∧ wx.cell? ⟨w.heap.size, 0, none⟩ = some (ptr hb) ∧ wx.cell? ⟨w.heap.size + 1, 0, none⟩ = some (I slot) ∧ Below w.heap.size w wx)
  case first =>
    go_region_held3 (fun w2 => w2.cell? ⟨w.heap.size, 0, none⟩ = some (ptr hb) ∧ w2.cell? ⟨w.heap.size + 1, 0, none⟩ = some (I slot) ∧ Below w.heap.size w w2) (((try dsimp only); (repeat' apply And.intro) <;> (repeat (first | (with_reducible assumption) | (with_reducible exact Below.refl _ _) | (with_reducible refine cell_set ?_ (by omega)) | (with_reducible refine cell_new (by simp) rfl) | (with_reducible refine cell_alloc ?_) | (with_reducible refine cell_drew ?_) | (with_reducible refine below_set ?_ (by omega)) | (with_reducible refine below_alloc ?_) | (with_reducible refine below_drew ?_) | fail))))
      (first
        | (go_at_call 27; refine (root_calls (H.out.below (‹_ ∧ _ ∧ Below _ _ _›).2.2) HW.out.ends slot).mono ?_; rw [HR.out]; rintro e w1 ⟨rfl, hb1⟩; have B1 := Below.step (‹_ ∧ _ ∧ Below _ _ _›).2.2 hb1; have e0 := cell_go hb1 (‹_ ∧ _ ∧ Below _ _ _›).1; have e1 := cell_go hb1 (‹_ ∧ _ ∧ Below _ _ _›).2.1; have el := cell_lt e1; (try (have zn : ZN w1 (w.heap.size + 2) := (by first | (with_reducible exact ZN.goA hb1 (by simp)) | (with_reducible exact ZN.goB hb1 (by simp)) | fail); have z2 := zn.lt; have ZN1 := Lib.hid zn; clear zn)); clear hb1)
        | (go_at_call 22; refine (node_calls (H.out.below (‹_ ∧ _ ∧ Below _ _ _›).2.2) r).mono ?_; rw [HX.out]; rintro e w2 ⟨ka, kc, rfl, _, hb2⟩; have B2 := Below.step (‹_ ∧ _ ∧ Below _ _ _›).2.2 hb2; have f0 := cell_go hb2 (‹_ ∧ _ ∧ Below _ _ _›).1; have f1 := cell_go hb2 (‹_ ∧ _ ∧ Below _ _ _›).2.1; have fl := cell_lt f1; (try (have zn : ZN w2 _ := (by first | (with_reducible exact ZN1.out.below hb2) | (with_reducible exact ZN.goA hb2 rfl) | (with_reducible exact ZN.goB hb2 rfl) | fail); obtain ⟨k0, k1, k2, k3, k4, k5, k6, k7, k8, q0, q1, q2, q3, q4, q5, q6, q7, q8⟩ := zn.facts; have zl := zn.lt; clear zn)); clear hb2))
    all_goals (go_wp2_with fail; go_meet)
    all_goals (refine ⟨_, rfl, ?_, by with_reducible assumption⟩)
    all_goals (first | (with_reducible refine cell_new (by simp) rfl) | (((repeat (with_reducible refine cell_off ?_ (by decide))); with_reducible refine cell_hit (v := I 0) ?_; ((repeat (with_reducible refine cell_off ?_ (by decide))); with_reducible assumption))))
  case rest =>
    obtain ⟨g, rfl, g2, c0, c1, hbel⟩ := hcut
    have l1 := cell_lt c1
    have lg := cell_lt g2
    cases z
    · have hr0 : R = [] := by rw [← HRR.out]; rfl
      subst hr0
      go_wp2_with fail
      refine (node_calls (H.out.below hbel) x.host).mono ?_
      rw [HY.out, HZ.out]
      rintro e w3 ⟨ka, kc, rfl, _, hb3⟩
      have HB3 := Lib.hid hb3
      clear hb3
      go_wp2
      go_ret
      exact ⟨_, rfl, World.ownsRow_nil _ _ _ _, Below.step (Below.step hbel HB3.out) (below1 _ _)⟩
    · have HR0 : Hid (R = y.kids.filter fun q => there L q && (slotOf L q == slot)) := Lib.hid (by rw [← HRR.out]; rfl)
      have HBL := Lib.hid hbel
      clear hbel
      go_wp2_with fail
      refine (node_calls (H.out.below HBL.out) x.host).mono ?_
      rw [HY.out, HZ.out]
      rintro e w3 ⟨ka, kc, rfl, ho, hb3⟩
      have d0 := cell_go hb3 c0
      have d1 := cell_go hb3 c1
      have l3 := cell_lt d1
      have l30 := cell_lt d0
      have HO := Lib.hid ho
      have HB3 := Lib.hid hb3
      clear ho hb3
      have hmf : ∀ (fn : Fn) (first cap : Array Value) (w : World), (Instr.makeFunc fn first cap).run Try.prog w = .ok (.func fn first cap) w := fun _ _ _ _ => rfl
      go_wp2_with fail
      refine (pick_calls ((H.out.below (Below.step HBL.out HB3.out)).below (below1 _ _)) (assigned1_on ((H.out.below (Below.step HBL.out HB3.out)).below (below1 _ _)) HW.out slot (cell_alloc d0) (cell_alloc d1)) enA (HO.out.ints.below (below1 _ _)) (by have := HLEN.out; omega)).mono ?_
      rw [← HR0.out]
      rintro e w4 ⟨v, rfl, hown, hb4⟩
      have HOW := Lib.hid hown
      have HB4 := Lib.hid hb4
      clear hown hb4
      go_wp2
      go_ret
      exact ⟨v, rfl, ownsRow_base HOW.out (by have := HBL.out.size; have := HB3.out.size; simp; omega), Below.step (Below.step (Below.step HBL.out HB3.out) (below1 _ _)) HB4.out⟩
end Go.Proofs.Ytidekbamlnpglaa

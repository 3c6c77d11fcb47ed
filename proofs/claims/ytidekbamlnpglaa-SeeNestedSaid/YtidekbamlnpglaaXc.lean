/-
  The walk of path.Make's closure.
-/
import Derived.Test.YtidekbamlnpglaaXb
import Derived.Test.YtidekbamlnpglaaHr
import Derived.Test.YtidekbamlnpglaaWf
namespace Go.Proofs.Ytidekbamlnpglaa
open Go.RowKit Tc

set_option maxRecDepth 100000 in
set_option maxHeartbeats 1600000 in
theorem add_no {w : World} {hb bf bo : Nat} {L : Fo} {acc : List Sp} {v : Value} (hst : AddSt w hb L bf bo acc v) (hW : WF L) (hlen : acc.length ≤ 1000) (id t rel : Int) :
    Calls Try.prog 113 #[I id, I t, I rel, .bool false, ptr bo, ptr bf] w fun e w' => ∃ v', e = .returned (.tuple #[]) ∧ AddSt w' hb L bf bo (acc ++ [⟨id, t, rel, closedB L id, false⟩]) v' ∧ AddTurn w w' bo v v' := by
  obtain ⟨ao, cap, e⟩ := row_shape hst.own
  subst e
  have c0 := cell_of_one hst.ho
  have c1 := hst.cf
  obtain ⟨c, hc⟩ : ∃ c, closedB L id = c := ⟨_, rfl⟩
  obtain ⟨r, hr⟩ : ∃ r, root L id = r := ⟨_, rfl⟩
  obtain ⟨c2, hc2⟩ : ∃ c2, closedB L r = c2 := ⟨_, rfl⟩
  have H := Lib.hid hst
  have HC := Lib.hid hc
  have HR := Lib.hid hr
  have HC2 := Lib.hid hc2
  have HWF := Lib.hid hW
  have HLN := Lib.hid hlen
  have B0 : Below w.heap.size w w.drew := (Below.refl _ _).drew
  have HB0 := Lib.hid B0
  have g0 := cell_lt c0
  have g1 := cell_lt c1
  clear hst hc hr hc2 hW hlen B0
  go_enter Try.func113, Try.ntmps113
  go_wp2_with fail
  refine region_but (S := (fun w2 : World => w2.cell? ⟨bo, 0, none⟩ = some (.slice ao acc.length cap) ∧ w2.cell? ⟨bf, 0, none⟩ = some (ptr hb))) (z := 18) (by kernel_rfl) 19 #[false, false, false, false, false, false, false, false, false, false, false, false, false, false, false, false, false, false, false] (by kernel_rfl) (by kernel_rfl) ?_
  have hS : (fun w2 : World => w2.cell? ⟨bo, 0, none⟩ = some (.slice ao acc.length cap) ∧ w2.cell? ⟨bf, 0, none⟩ = some (ptr hb)) w.drew := ⟨c0, c1⟩
  refine but_take' (i := 0) (.slice ao acc.length cap) rfl (by kernel_rfl) (by kernel_rfl) (by kernel_rfl) (by kernel_rfl) (fun _ _ _ h => h) (by rfl) hS (l' := #[true, false, false, false, false, false, false, false, false, false, false, false, false, false, false, false, false, false, false]) (by kernel_rfl) rfl ?_ ?_
  · intro w' hSw
    obtain ⟨s0, s1⟩ := hSw
    go_simp
  try simp only [Act.put, List.setIfInBounds_toArray, List.set_cons_zero, List.set_cons_succ]
  refine but_take' (i := 1) (I id) rfl (by kernel_rfl) (by kernel_rfl) (by kernel_rfl) (by kernel_rfl) (fun _ _ _ h => h) (by rfl) hS (l' := #[true, true, false, false, false, false, false, false, false, false, false, false, false, false, false, false, false, false, false]) (by kernel_rfl) rfl ?_ ?_
  · intro w' hSw
    obtain ⟨s0, s1⟩ := hSw
    go_simp
  try simp only [Act.put, List.setIfInBounds_toArray, List.set_cons_zero, List.set_cons_succ]
  refine but_take' (i := 2) (I t) rfl (by kernel_rfl) (by kernel_rfl) (by kernel_rfl) (by kernel_rfl) (fun _ _ _ h => h) (by rfl) hS (l' := #[true, true, true, false, false, false, false, false, false, false, false, false, false, false, false, false, false, false, false]) (by kernel_rfl) rfl ?_ ?_
  · intro w' hSw
    obtain ⟨s0, s1⟩ := hSw
    go_simp
  try simp only [Act.put, List.setIfInBounds_toArray, List.set_cons_zero, List.set_cons_succ]
  refine but_take' (i := 3) (I rel) rfl (by kernel_rfl) (by kernel_rfl) (by kernel_rfl) (by kernel_rfl) (fun _ _ _ h => h) (by rfl) hS (l' := #[true, true, true, true, false, false, false, false, false, false, false, false, false, false, false, false, false, false, false]) (by kernel_rfl) rfl ?_ ?_
  · intro w' hSw
    obtain ⟨s0, s1⟩ := hSw
    go_simp
  try simp only [Act.put, List.setIfInBounds_toArray, List.set_cons_zero, List.set_cons_succ]
  refine but_take' (i := 4) (ptr hb) rfl (by kernel_rfl) (by kernel_rfl) (by kernel_rfl) (by kernel_rfl) (fun _ _ _ h => h) (by rfl) hS (l' := #[true, true, true, true, true, false, false, false, false, false, false, false, false, false, false, false, false, false, false]) (by kernel_rfl) rfl ?_ ?_
  · intro w' hSw
    obtain ⟨s0, s1⟩ := hSw
    go_simp
  try simp only [Act.put, List.setIfInBounds_toArray, List.set_cons_zero, List.set_cons_succ]
  refine but_take' (i := 5) (I id) rfl (by kernel_rfl) (by kernel_rfl) (by kernel_rfl) (by kernel_rfl) (fun _ _ _ h => h) (by rfl) hS (l' := #[true, true, true, true, true, true, false, false, false, false, false, false, false, false, false, false, false, false, false]) (by kernel_rfl) rfl ?_ ?_
  · intro w' hSw
    obtain ⟨s0, s1⟩ := hSw
    go_simp
  try simp only [Act.put, List.setIfInBounds_toArray, List.set_cons_zero, List.set_cons_succ]
  refine but_take' (i := 7) (.bool false) rfl (by kernel_rfl) (by kernel_rfl) (by kernel_rfl) (by kernel_rfl) (fun _ _ _ h => h) (by rfl) hS (l' := #[true, true, true, true, true, true, false, true, false, false, false, false, false, false, false, false, false, false, false]) (by kernel_rfl) rfl ?_ ?_
  · intro w' hSw
    obtain ⟨s0, s1⟩ := hSw
    go_simp
  try simp only [Act.put, List.setIfInBounds_toArray, List.set_cons_zero, List.set_cons_succ]
  refine but_one' (i := 6) rfl (by kernel_rfl) (by rfl) (l' := #[true, true, true, true, true, true, true, true, false, false, false, false, false, false, false, false, false, false, false]) (by kernel_rfl) ?_
  intro K hK
  go_simp
  refine (pclosed_calls (H.out.fo.below HB0.out) id).mono ?_
  rw [HC.out]
  rintro e w1 ⟨rfl, hb1⟩
  have e0 := cell_go (Below.step HB0.out hb1) c0
  have e1 := cell_go (Below.step HB0.out hb1) c1
  have HB1 := Lib.hid (Below.step HB0.out hb1)
  clear hb1
  refine hK _ _ (fun _ => ⟨e0, e1⟩) ?_
  clear hK K
  try simp only [Act.put, List.setIfInBounds_toArray, List.set_cons_zero, List.set_cons_succ]
  have hS1 : (fun w2 : World => w2.cell? ⟨bo, 0, none⟩ = some (.slice ao acc.length cap) ∧ w2.cell? ⟨bf, 0, none⟩ = some (ptr hb)) w1 := ⟨e0, e1⟩
  refine but_take' (i := 8) (.bool false) rfl (by kernel_rfl) (by kernel_rfl) (by kernel_rfl) (by kernel_rfl) (fun _ _ _ h => h) (by rfl) hS1 (l' := #[true, true, true, true, true, true, true, true, true, false, false, false, false, false, false, false, false, false, false]) (by kernel_rfl) rfl ?_ ?_
  · intro w' hSw
    obtain ⟨s0, s1⟩ := hSw
    go_simp
  try simp only [Act.put, List.setIfInBounds_toArray, List.set_cons_zero, List.set_cons_succ]
  refine but_skip' (i := 9) rfl (by kernel_rfl) (by kernel_rfl) (by kernel_rfl) (by kernel_rfl) (fun _ _ _ h => h) (by rfl) hS1 (l' := #[true, true, true, true, true, true, true, true, true, true, false, false, false, false, false, false, false, false, false]) (by kernel_rfl) rfl ?_
  try simp only [Act.put, List.setIfInBounds_toArray, List.set_cons_zero, List.set_cons_succ]
  refine but_skip' (i := 10) rfl (by kernel_rfl) (by kernel_rfl) (by kernel_rfl) (by kernel_rfl) (fun _ _ _ h => h) (by rfl) hS1 (l' := #[true, true, true, true, true, true, true, true, true, true, true, false, false, false, false, false, false, false, false]) (by kernel_rfl) rfl ?_
  try simp only [Act.put, List.setIfInBounds_toArray, List.set_cons_zero, List.set_cons_succ]
  refine but_skip' (i := 11) rfl (by kernel_rfl) (by kernel_rfl) (by kernel_rfl) (by kernel_rfl) (fun _ _ _ h => h) (by rfl) hS1 (l' := #[true, true, true, true, true, true, true, true, true, true, true, true, false, false, false, false, false, false, false]) (by kernel_rfl) rfl ?_
  try simp only [Act.put, List.setIfInBounds_toArray, List.set_cons_zero, List.set_cons_succ]
  refine but_skip' (i := 12) rfl (by kernel_rfl) (by kernel_rfl) (by kernel_rfl) (by kernel_rfl) (fun _ _ _ h => h) (by rfl) hS1 (l' := #[true, true, true, true, true, true, true, true, true, true, true, true, true, false, false, false, false, false, false]) (by kernel_rfl) rfl ?_
  try simp only [Act.put, List.setIfInBounds_toArray, List.set_cons_zero, List.set_cons_succ]
  refine but_skip' (i := 13) rfl (by kernel_rfl) (by kernel_rfl) (by kernel_rfl) (by kernel_rfl) (fun _ _ _ h => h) (by rfl) hS1 (l' := #[true, true, true, true, true, true, true, true, true, true, true, true, true, true, false, false, false, false, false]) (by kernel_rfl) rfl ?_
  try simp only [Act.put, List.setIfInBounds_toArray, List.set_cons_zero, List.set_cons_succ]
  refine but_take' (i := 14) (.bool false) rfl (by kernel_rfl) (by kernel_rfl) (by kernel_rfl) (by kernel_rfl) (fun _ _ _ h => h) (by rfl) hS1 (l' := #[true, true, true, true, true, true, true, true, true, true, true, true, true, true, true, false, false, false, false]) (by kernel_rfl) rfl ?_ ?_
  · intro w' hSw
    obtain ⟨s0, s1⟩ := hSw
    go_simp
  try simp only [Act.put, List.setIfInBounds_toArray, List.set_cons_zero, List.set_cons_succ]
  refine but_take' (i := 15) (.agg #[I id, I t, I rel, .bool c, .bool false]) rfl (by kernel_rfl) (by kernel_rfl) (by kernel_rfl) (by kernel_rfl) (fun _ _ _ h => h) (by rfl) hS1 (l' := #[true, true, true, true, true, true, true, true, true, true, true, true, true, true, true, true, false, false, false]) (by kernel_rfl) rfl ?_ ?_
  · intro w' hSw
    obtain ⟨s0, s1⟩ := hSw
    go_simp
  try simp only [Act.put, List.setIfInBounds_toArray, List.set_cons_zero, List.set_cons_succ]
  have b0 := cell_lt e0
  have b1 := cell_lt e1
  refine but_one' (i := 16) rfl (by kernel_rfl) (by rfl) (l' := #[true, true, true, true, true, true, true, true, true, true, true, true, true, true, true, true, true, false, false]) (by kernel_rfl) ?_
  intro K hK
  go_simp
  refine hK _ _ (fun _ => ⟨cell_alloc e0, cell_alloc e1⟩) ?_
  clear hK K
  try simp only [Act.put, List.setIfInBounds_toArray, List.set_cons_zero, List.set_cons_succ]
  have HBa := Lib.hid (Below.step HB1.out (below1 w1 (.cells #[I id, I t, I rel, .bool c, .bool false] 70)))
  have HSt := Lib.hid (H.out.below HBa.out)
  refine but_one' (i := 17) rfl (by kernel_rfl) (by rfl) (l' := #[true, true, true, true, true, true, true, true, true, true, true, true, true, true, true, true, true, true, false]) (by kernel_rfl) ?_
  intro K hK
  refine wp_appP (.tmp 10) (.tmp 26) rfl (bo + 1) (.slice ao acc.length cap) acc rfl HSt.out.own (⟨id, t, rel, c, false⟩ : Sp) ⟨w1.heap.size, 0, none⟩ 1 rfl (news_at _ _ _) (by have := HLN.out; omega) (by simp; omega) ?_
  intro va vc w5 hown hg hrow
  obtain ⟨p1, p2, p3, p4⟩ := AddSt.push hg HSt.out hown hrow
  have m0 := cell_of_one p3
  have n0 := free_of_one p3
  have HP1 := Lib.hid p1
  have HP2 := Lib.hid p2
  clear p1 p2 p3 hown hg hrow
  refine hK _ _ (fun _ => ⟨m0, p4⟩) ?_
  clear hK K
  try simp only [Act.put, List.setIfInBounds_toArray, List.set_cons_zero, List.set_cons_succ]
  refine but_one' (i := 18) rfl (by kernel_rfl) (by rfl) (l' := #[true, true, true, true, true, true, true, true, true, true, true, true, true, true, true, true, true, true, true]) (by kernel_rfl) ?_
  intro K hK
  go_simp
  refine hK _ _ (fun h => absurd rfl h) ?_
  clear hK K
  try simp only [Act.put, List.setIfInBounds_toArray, List.set_cons_zero, List.set_cons_succ]
  refine but_done (by kernel_rfl) ?_ _
  go_wp2
  first | go_end0 | ((try simp only [Exit.inBlock, Exit.then]); refine bodyPost_ret (results_none rfl _ _ _) rfl ?_)
  refine ⟨rfl, _, ?_, (AddTurn.refl HBa.out).trans HP2.out⟩
  rw [HC.out]
  exact HP1.out

set_option maxRecDepth 100000 in
set_option maxHeartbeats 1600000 in
theorem add_yes {w : World} {hb bf bo : Nat} {L : Fo} {acc : List Sp} {v : Value} (hst : AddSt w hb L bf bo acc v) (hW : WF L) (hlen : acc.length ≤ 1000) (id t rel : Int) :
    Calls Try.prog 113 #[I id, I t, I rel, .bool true, ptr bo, ptr bf] w fun e w' => ∃ v', e = .returned (.tuple #[]) ∧ AddSt w' hb L bf bo (acc ++ [⟨id, t, rel, closedB L id, closedB L (root L id)⟩]) v' ∧ AddTurn w w' bo v v' := by
  obtain ⟨ao, cap, e⟩ := row_shape hst.own
  subst e
  have c0 := cell_of_one hst.ho
  have c1 := hst.cf
  obtain ⟨c, hc⟩ : ∃ c, closedB L id = c := ⟨_, rfl⟩
  obtain ⟨r, hr⟩ : ∃ r, root L id = r := ⟨_, rfl⟩
  obtain ⟨c2, hc2⟩ : ∃ c2, closedB L r = c2 := ⟨_, rfl⟩
  have H := Lib.hid hst
  have HC := Lib.hid hc
  have HR := Lib.hid hr
  have HC2 := Lib.hid hc2
  have HWF := Lib.hid hW
  have HLN := Lib.hid hlen
  have B0 : Below w.heap.size w w.drew := (Below.refl _ _).drew
  have HB0 := Lib.hid B0
  have g0 := cell_lt c0
  have g1 := cell_lt c1
  clear hst hc hr hc2 hW hlen B0
  go_enter Try.func113, Try.ntmps113
  go_wp2_with fail
  refine region_but (S := (fun w2 : World => w2.cell? ⟨bo, 0, none⟩ = some (.slice ao acc.length cap) ∧ w2.cell? ⟨bf, 0, none⟩ = some (ptr hb))) (z := 18) (by kernel_rfl) 19 #[false, false, false, false, false, false, false, false, false, false, false, false, false, false, false, false, false, false, false] (by kernel_rfl) (by kernel_rfl) ?_
  have hS : (fun w2 : World => w2.cell? ⟨bo, 0, none⟩ = some (.slice ao acc.length cap) ∧ w2.cell? ⟨bf, 0, none⟩ = some (ptr hb)) w.drew := ⟨c0, c1⟩
  refine but_take' (i := 0) (.slice ao acc.length cap) rfl (by kernel_rfl) (by kernel_rfl) (by kernel_rfl) (by kernel_rfl) (fun _ _ _ h => h) (by rfl) hS (l' := #[true, false, false, false, false, false, false, false, false, false, false, false, false, false, false, false, false, false, false]) (by kernel_rfl) rfl ?_ ?_
  · intro w' hSw
    obtain ⟨s0, s1⟩ := hSw
    go_simp
  try simp only [Act.put, List.setIfInBounds_toArray, List.set_cons_zero, List.set_cons_succ]
  refine but_take' (i := 1) (I id) rfl (by kernel_rfl) (by kernel_rfl) (by kernel_rfl) (by kernel_rfl) (fun _ _ _ h => h) (by rfl) hS (l' := #[true, true, false, false, false, false, false, false, false, false, false, false, false, false, false, false, false, false, false]) (by kernel_rfl) rfl ?_ ?_
  · intro w' hSw
    obtain ⟨s0, s1⟩ := hSw
    go_simp
  try simp only [Act.put, List.setIfInBounds_toArray, List.set_cons_zero, List.set_cons_succ]
  refine but_take' (i := 2) (I t) rfl (by kernel_rfl) (by kernel_rfl) (by kernel_rfl) (by kernel_rfl) (fun _ _ _ h => h) (by rfl) hS (l' := #[true, true, true, false, false, false, false, false, false, false, false, false, false, false, false, false, false, false, false]) (by kernel_rfl) rfl ?_ ?_
  · intro w' hSw
    obtain ⟨s0, s1⟩ := hSw
    go_simp
  try simp only [Act.put, List.setIfInBounds_toArray, List.set_cons_zero, List.set_cons_succ]
  refine but_take' (i := 3) (I rel) rfl (by kernel_rfl) (by kernel_rfl) (by kernel_rfl) (by kernel_rfl) (fun _ _ _ h => h) (by rfl) hS (l' := #[true, true, true, true, false, false, false, false, false, false, false, false, false, false, false, false, false, false, false]) (by kernel_rfl) rfl ?_ ?_
  · intro w' hSw
    obtain ⟨s0, s1⟩ := hSw
    go_simp
  try simp only [Act.put, List.setIfInBounds_toArray, List.set_cons_zero, List.set_cons_succ]
  refine but_take' (i := 4) (ptr hb) rfl (by kernel_rfl) (by kernel_rfl) (by kernel_rfl) (by kernel_rfl) (fun _ _ _ h => h) (by rfl) hS (l' := #[true, true, true, true, true, false, false, false, false, false, false, false, false, false, false, false, false, false, false]) (by kernel_rfl) rfl ?_ ?_
  · intro w' hSw
    obtain ⟨s0, s1⟩ := hSw
    go_simp
  try simp only [Act.put, List.setIfInBounds_toArray, List.set_cons_zero, List.set_cons_succ]
  refine but_take' (i := 5) (I id) rfl (by kernel_rfl) (by kernel_rfl) (by kernel_rfl) (by kernel_rfl) (fun _ _ _ h => h) (by rfl) hS (l' := #[true, true, true, true, true, true, false, false, false, false, false, false, false, false, false, false, false, false, false]) (by kernel_rfl) rfl ?_ ?_
  · intro w' hSw
    obtain ⟨s0, s1⟩ := hSw
    go_simp
  try simp only [Act.put, List.setIfInBounds_toArray, List.set_cons_zero, List.set_cons_succ]
  refine but_take' (i := 7) (.bool true) rfl (by kernel_rfl) (by kernel_rfl) (by kernel_rfl) (by kernel_rfl) (fun _ _ _ h => h) (by rfl) hS (l' := #[true, true, true, true, true, true, false, true, false, false, false, false, false, false, false, false, false, false, false]) (by kernel_rfl) rfl ?_ ?_
  · intro w' hSw
    obtain ⟨s0, s1⟩ := hSw
    go_simp
  try simp only [Act.put, List.setIfInBounds_toArray, List.set_cons_zero, List.set_cons_succ]
  refine but_one' (i := 6) rfl (by kernel_rfl) (by rfl) (l' := #[true, true, true, true, true, true, true, true, false, false, false, false, false, false, false, false, false, false, false]) (by kernel_rfl) ?_
  intro K hK
  go_simp
  refine (pclosed_calls (H.out.fo.below HB0.out) id).mono ?_
  rw [HC.out]
  rintro e w1 ⟨rfl, hb1⟩
  have e0 := cell_go (Below.step HB0.out hb1) c0
  have e1 := cell_go (Below.step HB0.out hb1) c1
  have HB1 := Lib.hid (Below.step HB0.out hb1)
  clear hb1
  refine hK _ _ (fun _ => ⟨e0, e1⟩) ?_
  clear hK K
  try simp only [Act.put, List.setIfInBounds_toArray, List.set_cons_zero, List.set_cons_succ]
  have hS1 : (fun w2 : World => w2.cell? ⟨bo, 0, none⟩ = some (.slice ao acc.length cap) ∧ w2.cell? ⟨bf, 0, none⟩ = some (ptr hb)) w1 := ⟨e0, e1⟩
  refine but_take' (i := 8) (.bool true) rfl (by kernel_rfl) (by kernel_rfl) (by kernel_rfl) (by kernel_rfl) (fun _ _ _ h => h) (by rfl) hS1 (l' := #[true, true, true, true, true, true, true, true, true, false, false, false, false, false, false, false, false, false, false]) (by kernel_rfl) rfl ?_ ?_
  · intro w' hSw
    obtain ⟨s0, s1⟩ := hSw
    go_simp
  try simp only [Act.put, List.setIfInBounds_toArray, List.set_cons_zero, List.set_cons_succ]
  refine but_take' (i := 9) (ptr hb) rfl (by kernel_rfl) (by kernel_rfl) (by kernel_rfl) (by kernel_rfl) (fun _ _ _ h => h) (by rfl) hS1 (l' := #[true, true, true, true, true, true, true, true, true, true, false, false, false, false, false, false, false, false, false]) (by kernel_rfl) rfl ?_ ?_
  · intro w' hSw
    obtain ⟨s0, s1⟩ := hSw
    go_simp
  try simp only [Act.put, List.setIfInBounds_toArray, List.set_cons_zero, List.set_cons_succ]
  refine but_take' (i := 10) (ptr hb) rfl (by kernel_rfl) (by kernel_rfl) (by kernel_rfl) (by kernel_rfl) (fun _ _ _ h => h) (by rfl) hS1 (l' := #[true, true, true, true, true, true, true, true, true, true, true, false, false, false, false, false, false, false, false]) (by kernel_rfl) rfl ?_ ?_
  · intro w' hSw
    obtain ⟨s0, s1⟩ := hSw
    go_simp
  try simp only [Act.put, List.setIfInBounds_toArray, List.set_cons_zero, List.set_cons_succ]
  refine but_take' (i := 11) (I id) rfl (by kernel_rfl) (by kernel_rfl) (by kernel_rfl) (by kernel_rfl) (fun _ _ _ h => h) (by rfl) hS1 (l' := #[true, true, true, true, true, true, true, true, true, true, true, true, false, false, false, false, false, false, false]) (by kernel_rfl) rfl ?_ ?_
  · intro w' hSw
    obtain ⟨s0, s1⟩ := hSw
    go_simp
  try simp only [Act.put, List.setIfInBounds_toArray, List.set_cons_zero, List.set_cons_succ]
  refine but_one' (i := 12) rfl (by kernel_rfl) (by rfl) (l' := #[true, true, true, true, true, true, true, true, true, true, true, true, true, false, false, false, false, false, false]) (by kernel_rfl) ?_
  intro K hK
  go_simp
  refine (root_calls (H.out.fo.below HB1.out) HWF.out.ends id).mono ?_
  rw [HR.out]
  rintro e w2 ⟨rfl, hb2⟩
  have f0 := cell_go hb2 e0
  have f1 := cell_go hb2 e1
  have HB2 := Lib.hid (Below.step HB1.out hb2)
  clear hb2
  refine hK _ _ (fun _ => ⟨f0, f1⟩) ?_
  clear hK K
  try simp only [Act.put, List.setIfInBounds_toArray, List.set_cons_zero, List.set_cons_succ]
  refine but_one' (i := 13) rfl (by kernel_rfl) (by rfl) (l' := #[true, true, true, true, true, true, true, true, true, true, true, true, true, true, false, false, false, false, false]) (by kernel_rfl) ?_
  intro K hK
  go_simp
  refine (pclosed_calls (H.out.fo.below HB2.out) r).mono ?_
  rw [HC2.out]
  rintro e w3 ⟨rfl, hb3⟩
  have k0 := cell_go hb3 f0
  have k1 := cell_go hb3 f1
  have HB3 := Lib.hid (Below.step HB2.out hb3)
  clear hb3
  refine hK _ _ (fun _ => ⟨k0, k1⟩) ?_
  clear hK K
  try simp only [Act.put, List.setIfInBounds_toArray, List.set_cons_zero, List.set_cons_succ]
  have hS3 : (fun w2 : World => w2.cell? ⟨bo, 0, none⟩ = some (.slice ao acc.length cap) ∧ w2.cell? ⟨bf, 0, none⟩ = some (ptr hb)) w3 := ⟨k0, k1⟩
  refine but_take' (i := 14) (.bool c2) rfl (by kernel_rfl) (by kernel_rfl) (by kernel_rfl) (by kernel_rfl) (fun _ _ _ h => h) (by rfl) hS3 (l' := #[true, true, true, true, true, true, true, true, true, true, true, true, true, true, true, false, false, false, false]) (by kernel_rfl) rfl ?_ ?_
  · intro w' hSw
    obtain ⟨s0, s1⟩ := hSw
    go_simp
  try simp only [Act.put, List.setIfInBounds_toArray, List.set_cons_zero, List.set_cons_succ]
  refine but_take' (i := 15) (.agg #[I id, I t, I rel, .bool c, .bool c2]) rfl (by kernel_rfl) (by kernel_rfl) (by kernel_rfl) (by kernel_rfl) (fun _ _ _ h => h) (by rfl) hS3 (l' := #[true, true, true, true, true, true, true, true, true, true, true, true, true, true, true, true, false, false, false]) (by kernel_rfl) rfl ?_ ?_
  · intro w' hSw
    obtain ⟨s0, s1⟩ := hSw
    go_simp
  try simp only [Act.put, List.setIfInBounds_toArray, List.set_cons_zero, List.set_cons_succ]
  have b0 := cell_lt k0
  have b1 := cell_lt k1
  refine but_one' (i := 16) rfl (by kernel_rfl) (by rfl) (l' := #[true, true, true, true, true, true, true, true, true, true, true, true, true, true, true, true, true, false, false]) (by kernel_rfl) ?_
  intro K hK
  go_simp
  refine hK _ _ (fun _ => ⟨cell_alloc k0, cell_alloc k1⟩) ?_
  clear hK K
  try simp only [Act.put, List.setIfInBounds_toArray, List.set_cons_zero, List.set_cons_succ]
  have HBa := Lib.hid (Below.step HB3.out (below1 w3 (.cells #[I id, I t, I rel, .bool c, .bool c2] 70)))
  have HSt := Lib.hid (H.out.below HBa.out)
  refine but_one' (i := 17) rfl (by kernel_rfl) (by rfl) (l' := #[true, true, true, true, true, true, true, true, true, true, true, true, true, true, true, true, true, true, false]) (by kernel_rfl) ?_
  intro K hK
  refine wp_appP (.tmp 10) (.tmp 26) rfl (bo + 1) (.slice ao acc.length cap) acc rfl HSt.out.own (⟨id, t, rel, c, c2⟩ : Sp) ⟨w3.heap.size, 0, none⟩ 1 rfl (news_at _ _ _) (by have := HLN.out; omega) (by simp; omega) ?_
  intro va vc w5 hown hg hrow
  obtain ⟨p1, p2, p3, p4⟩ := AddSt.push hg HSt.out hown hrow
  have m0 := cell_of_one p3
  have n0 := free_of_one p3
  have HP1 := Lib.hid p1
  have HP2 := Lib.hid p2
  clear p1 p2 p3 hown hg hrow
  refine hK _ _ (fun _ => ⟨m0, p4⟩) ?_
  clear hK K
  try simp only [Act.put, List.setIfInBounds_toArray, List.set_cons_zero, List.set_cons_succ]
  refine but_one' (i := 18) rfl (by kernel_rfl) (by rfl) (l' := #[true, true, true, true, true, true, true, true, true, true, true, true, true, true, true, true, true, true, true]) (by kernel_rfl) ?_
  intro K hK
  go_simp
  refine hK _ _ (fun h => absurd rfl h) ?_
  clear hK K
  try simp only [Act.put, List.setIfInBounds_toArray, List.set_cons_zero, List.set_cons_succ]
  refine but_done (by kernel_rfl) ?_ _
  go_wp2
  first | go_end0 | ((try simp only [Exit.inBlock, Exit.then]); refine bodyPost_ret (results_none rfl _ _ _) rfl ?_)
  refine ⟨rfl, _, ?_, (AddTurn.refl HBa.out).trans HP2.out⟩
  rw [HC.out]
  rw [HR.out, HC2.out]
  exact HP1.out

theorem add_calls {w : World} {hb bf bo : Nat} {L : Fo} {acc : List Sp} {v : Value} (hst : AddSt w hb L bf bo acc v) (hW : WF L) (hlen : acc.length ≤ 1000) (id t rel : Int) (s : Bool) :
    Calls Try.prog 113 #[I id, I t, I rel, .bool s, ptr bo, ptr bf] w fun e w' => ∃ v', e = .returned (.tuple #[]) ∧ AddSt w' hb L bf bo (acc ++ [⟨id, t, rel, closedB L id, s && closedB L (root L id)⟩]) v' ∧ AddTurn w w' bo v v' := by
  cases s
  · exact add_no hst hW hlen id t rel
  · exact add_yes hst hW hlen id t rel
theorem enM : EntersF 113 := Go.Proofs.enters_of Try.func113 (by kernel_rfl) rfl
end Go.Proofs.Ytidekbamlnpglaa

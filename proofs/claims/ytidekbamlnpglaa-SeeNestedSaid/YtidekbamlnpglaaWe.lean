/-
  The walk of arena.right.
-/
import Derived.Test.YtidekbamlnpglaaWd
namespace Go.Proofs.Ytidekbamlnpglaa
open Go.RowKit Tc

theorem toList_nil (s : ByteArray) : s.toList = [] ↔ s.size = 0 := by
  have : s.toList.length = s.size := by rw [ByteArray.toList_eq]; rfl
  rw [← this]
  exact List.length_eq_zero_iff.symm
theorem toList_empty {s : ByteArray} (h : s.size = 0) : s.toList = [] ∧ s.toList.isEmpty = true := by
  have := (toList_nil s).2 h
  rw [this]; exact ⟨rfl, rfl⟩
theorem toList_some {s : ByteArray} (h : ¬ s.size = 0) : ¬ s.toList = [] ∧ s.toList.isEmpty = false := by
  have h' : ¬ s.toList = [] := fun e => h ((toList_nil s).1 e)
  refine ⟨h', ?_⟩
  cases hl : s.toList with
  | nil => exact absurd hl h'
  | cons _ _ => rfl
theorem named_empty {s : ByteArray} (h : s.size = 0) : namedB s = true := by unfold namedB; simp [h]

set_option maxRecDepth 100000 in
set_option maxHeartbeats 800000 in
theorem right_low (w : World) (x : Nd) (ka : Option Addr) (kn kc : Nat) (h1 : x.kind < 1) :
    Calls Try.prog 128 #[ndVal x (.slice ka kn kc)] w fun e w' => e = .returned (I (mkE x)) ∧ Below w.heap.size w w' := by
  have hv : mkE x = 2 := by unfold mkE; rw [if_pos (by omega)]
  rw [hv]
  clear hv
  go_enter Try.func128, Try.ntmps128
  go_wp2
  go_quiet (fail)
  go_wp2
  go_ret
  exact ⟨rfl, below_drewN (below1 _ _) _⟩

set_option maxRecDepth 100000 in
set_option maxHeartbeats 800000 in
theorem right_high (w : World) (x : Nd) (ka : Option Addr) (kn kc : Nat) (h1 : 1 ≤ x.kind) (h2 : 4 < x.kind) :
    Calls Try.prog 128 #[ndVal x (.slice ka kn kc)] w fun e w' => e = .returned (I (mkE x)) ∧ Below w.heap.size w w' := by
  have hv : mkE x = 2 := by unfold mkE; rw [if_pos (by omega)]
  rw [hv]
  clear hv
  go_enter Try.func128, Try.ntmps128
  go_wp2
  go_quiet (fail)
  go_wp2
  go_ret
  exact ⟨rfl, below_drewN (below1 _ _) _⟩

set_option maxRecDepth 100000 in
set_option maxHeartbeats 800000 in
theorem right_m3 (w : World) (x : Nd) (ka : Option Addr) (kn kc : Nat) (h1 : x.kind = 3) (m1 : ¬ x.mode = 1) (m2 : ¬ x.mode = 2) :
    Calls Try.prog 128 #[ndVal x (.slice ka kn kc)] w fun e w' => e = .returned (I (mkE x)) ∧ Below w.heap.size w w' := by
  have hv : mkE x = 1 := by simp [mkE, h1, m1, m2]
  rw [hv]
  clear hv
  have c1 : 1 ≤ x.kind := by omega
  have c2 : x.kind ≤ 4 := by omega
  have c3 : (x.kind == 2) = false := by simp [h1]
  have c4 : (x.kind == 3) = true := by simp [h1]
  have d1 : (x.mode == 1) = false := by simpa using m1
  have d2 : (x.mode == 2) = false := by simpa using m2
  clear h1 m1 m2
  go_enter Try.func128, Try.ntmps128
  go_wp2
  go_quiet (fail)
  go_wp2
  go_ret
  exact ⟨rfl, below_drewN (below1 _ _) _⟩

set_option maxRecDepth 100000 in
set_option maxHeartbeats 800000 in
theorem right_mN1 (w : World) (x : Nd) (ka : Option Addr) (kn kc : Nat) (h1 : 1 ≤ x.kind) (h2 : x.kind ≤ 4) (h3 : ¬ x.kind = 3) (m1 : x.mode = 1) :
    Calls Try.prog 128 #[ndVal x (.slice ka kn kc)] w fun e w' => e = .returned (I (mkE x)) ∧ Below w.heap.size w w' := by
  have hv : mkE x = 1 := by
    have h5 : ¬ (x.kind < 1 ∨ 4 < x.kind) := by omega
    unfold mkE; rw [if_neg (by omega)]; simp [h3, m1]
  rw [hv]
  clear hv
  have c4 : (x.kind == 3) = false := by simpa using h3
  have d1 : (x.mode == 1) = true := by simp [m1]
  clear h3 m1
  go_enter Try.func128, Try.ntmps128
  go_wp2
  go_quiet (fail)
  go_wp2
  go_ret
  exact ⟨rfl, below_drewN (below1 _ _) _⟩

set_option maxRecDepth 100000 in
set_option maxHeartbeats 800000 in
theorem right_mN2 (w : World) (x : Nd) (ka : Option Addr) (kn kc : Nat) (h1 : 1 ≤ x.kind) (h2 : x.kind ≤ 4) (h3 : ¬ x.kind = 3) (m1 : ¬ x.mode = 1) (m2 : x.mode = 2) :
    Calls Try.prog 128 #[ndVal x (.slice ka kn kc)] w fun e w' => e = .returned (I (mkE x)) ∧ Below w.heap.size w w' := by
  have hv : mkE x = 1 := by
    have h5 : ¬ (x.kind < 1 ∨ 4 < x.kind) := by omega
    unfold mkE; rw [if_neg (by omega)]; simp [h3, m2]
  rw [hv]
  clear hv
  have c4 : (x.kind == 3) = false := by simpa using h3
  have d1 : (x.mode == 1) = false := by simpa using m1
  have d2 : (x.mode == 2) = true := by simp [m2]
  clear h3 m1 m2
  go_enter Try.func128, Try.ntmps128
  go_wp2
  go_quiet (fail)
  go_wp2
  go_ret
  exact ⟨rfl, below_drewN (below1 _ _) _⟩

set_option maxRecDepth 100000 in
set_option maxHeartbeats 800000 in
theorem right_mN0 (w : World) (x : Nd) (ka : Option Addr) (kn kc : Nat) (h1 : 1 ≤ x.kind) (h2 : x.kind ≤ 4) (h3 : ¬ x.kind = 3) (m1 : ¬ x.mode = 1) (m2 : ¬ x.mode = 2) (m3 : ¬ x.mode = 0) :
    Calls Try.prog 128 #[ndVal x (.slice ka kn kc)] w fun e w' => e = .returned (I (mkE x)) ∧ Below w.heap.size w w' := by
  have hv : mkE x = 1 := by
    have h5 : ¬ (x.kind < 1 ∨ 4 < x.kind) := by omega
    unfold mkE; rw [if_neg (by omega)]; simp [h3, m1, m2, m3]
  rw [hv]
  clear hv
  have c4 : (x.kind == 3) = false := by simpa using h3
  have d1 : (x.mode == 1) = false := by simpa using m1
  have d2 : (x.mode == 2) = false := by simpa using m2
  have d3 : (x.mode != 0) = true := by simpa using m3
  clear h3 m1 m2 m3
  go_enter Try.func128, Try.ntmps128
  go_wp2
  go_quiet (fail)
  go_wp2
  go_ret
  exact ⟨rfl, below_drewN (below1 _ _) _⟩

set_option maxRecDepth 100000 in
set_option maxHeartbeats 800000 in
theorem right_a1 (w : World) (x : Nd) (ka : Option Addr) (kn kc : Nat) (h1 : x.kind = 3) (m1 : x.mode = 1) (s1 : x.slot = true) :
    Calls Try.prog 128 #[ndVal x (.slice ka kn kc)] w fun e w' => e = .returned (I (mkE x)) ∧ Below w.heap.size w w' := by
  have hv : mkE x = 1 := by simp [mkE, h1, m1, s1]
  rw [hv]
  clear hv
  have c1 : 1 ≤ x.kind := by omega
  have c2 : x.kind ≤ 4 := by omega
  have c3 : (x.kind == 2) = false := by simp [h1]
  have c4 : (x.kind == 3) = true := by simp [h1]
  have d1 : (x.mode == 1) = true := by simp [m1]
  clear h1 m1
  go_enter Try.func128, Try.ntmps128
  go_wp2
  go_quiet (fail)
  go_wp2
  go_ret
  exact ⟨rfl, below_drewN (below1 _ _) _⟩

set_option maxRecDepth 100000 in
set_option maxHeartbeats 800000 in
theorem right_a2 (w : World) (x : Nd) (ka : Option Addr) (kn kc : Nat) (h1 : x.kind = 3) (m1 : x.mode = 1) (s1 : x.slot = false) (w1 : ¬ x.want.size = 0) :
    Calls Try.prog 128 #[ndVal x (.slice ka kn kc)] w fun e w' => e = .returned (I (mkE x)) ∧ Below w.heap.size w w' := by
  have hv : mkE x = 1 := by simp [mkE, h1, m1, s1, w1]
  rw [hv]
  clear hv
  have c1 : 1 ≤ x.kind := by omega
  have c2 : x.kind ≤ 4 := by omega
  have c3 : (x.kind == 2) = false := by simp [h1]
  have c4 : (x.kind == 3) = true := by simp [h1]
  have d1 : (x.mode == 1) = true := by simp [m1]
  obtain ⟨we1, we2⟩ := toList_some w1
  clear h1 m1 w1
  go_enter Try.func128, Try.ntmps128
  go_wp2
  go_quiet (fail)
  go_wp2
  go_ret
  exact ⟨rfl, below_drewN (below1 _ _) _⟩

set_option maxRecDepth 100000 in
set_option maxHeartbeats 800000 in
theorem right_a3 (w : World) (x : Nd) (ka : Option Addr) (kn kc : Nat) (h1 : x.kind = 3) (m1 : x.mode = 1) (s1 : x.slot = false) (w1 : x.want.size = 0) (n1 : ¬ x.name.size = 0) :
    Calls Try.prog 128 #[ndVal x (.slice ka kn kc)] w fun e w' => e = .returned (I (mkE x)) ∧ Below w.heap.size w w' := by
  have hv : mkE x = 1 := by simp [mkE, h1, m1, s1, w1, n1, named_empty w1]
  rw [hv]
  clear hv
  have c1 : 1 ≤ x.kind := by omega
  have c2 : x.kind ≤ 4 := by omega
  have c3 : (x.kind == 2) = false := by simp [h1]
  have c4 : (x.kind == 3) = true := by simp [h1]
  have d1 : (x.mode == 1) = true := by simp [m1]
  obtain ⟨we1, we2⟩ := toList_empty w1
  have we3 := named_empty w1
  obtain ⟨ne1, ne2⟩ := toList_some n1
  clear h1 m1 w1 n1
  go_enter Try.func128, Try.ntmps128
  go_wp2
  go_quiet (fail)
  go_wp2
  go_ret
  exact ⟨rfl, below_drewN (below1 _ _) _⟩

set_option maxRecDepth 100000 in
set_option maxHeartbeats 800000 in
theorem right_a4 (w : World) (x : Nd) (ka : Option Addr) (kn kc : Nat) (h1 : x.kind = 3) (m1 : x.mode = 1) (s1 : x.slot = false) (w1 : x.want.size = 0) (n1 : x.name.size = 0) :
    Calls Try.prog 128 #[ndVal x (.slice ka kn kc)] w fun e w' => e = .returned (I (mkE x)) ∧ Below w.heap.size w w' := by
  have hv : mkE x = 0 := by simp [mkE, h1, m1, s1, w1, n1, named_empty n1, named_empty w1]
  rw [hv]
  clear hv
  have c1 : 1 ≤ x.kind := by omega
  have c2 : x.kind ≤ 4 := by omega
  have c3 : (x.kind == 2) = false := by simp [h1]
  have c4 : (x.kind == 3) = true := by simp [h1]
  have d1 : (x.mode == 1) = true := by simp [m1]
  obtain ⟨we1, we2⟩ := toList_empty w1
  have we3 := named_empty w1
  obtain ⟨ne1, ne2⟩ := toList_empty n1
  have ne3 := named_empty n1
  clear h1 m1 w1 n1
  go_enter Try.func128, Try.ntmps128
  go_wp2
  go_quiet (fail)
  go_wp2_with fail
  refine (named_calls _ _).mono ?_
  rintro e w1 ⟨rfl, hb1⟩
  obtain ⟨hc1, hf1⟩ := bcell hb1
  have HB1 := Lib.hid hb1
  clear hb1
  go_wp2_with fail
  refine (named_calls _ _).mono ?_
  rintro e w2 ⟨rfl, hb2⟩
  clear hc1 hf1
  go_wp2
  go_ret
  exact ⟨rfl, Below.step (Below.step (below_drewN (below1 _ _) _) HB1.out) hb2⟩

set_option maxRecDepth 100000 in
set_option maxHeartbeats 800000 in
theorem right_b1 (w : World) (x : Nd) (ka : Option Addr) (kn kc : Nat) (h1 : x.kind = 3) (m1 : ¬ x.mode = 1) (m2 : x.mode = 2) (s1 : x.slot = true) :
    Calls Try.prog 128 #[ndVal x (.slice ka kn kc)] w fun e w' => e = .returned (I (mkE x)) ∧ Below w.heap.size w w' := by
  have hv : mkE x = 1 := by simp [mkE, h1, m2, s1]
  rw [hv]
  clear hv
  have c1 : 1 ≤ x.kind := by omega
  have c2 : x.kind ≤ 4 := by omega
  have c3 : (x.kind == 2) = false := by simp [h1]
  have c4 : (x.kind == 3) = true := by simp [h1]
  have d1 : (x.mode == 1) = false := by simpa using m1
  have d2 : (x.mode == 2) = true := by simp [m2]
  clear h1 m1 m2
  go_enter Try.func128, Try.ntmps128
  go_wp2
  go_quiet (fail)
  go_wp2
  go_ret
  exact ⟨rfl, below_drewN (below1 _ _) _⟩

set_option maxRecDepth 100000 in
set_option maxHeartbeats 800000 in
theorem right_b2 (w : World) (x : Nd) (ka : Option Addr) (kn kc : Nat) (h1 : x.kind = 3) (m1 : ¬ x.mode = 1) (m2 : x.mode = 2) (s1 : x.slot = false) (w1 : ¬ x.want.size = 0) :
    Calls Try.prog 128 #[ndVal x (.slice ka kn kc)] w fun e w' => e = .returned (I (mkE x)) ∧ Below w.heap.size w w' := by
  have hv : mkE x = 1 := by simp [mkE, h1, m2, s1, w1]
  rw [hv]
  clear hv
  have c1 : 1 ≤ x.kind := by omega
  have c2 : x.kind ≤ 4 := by omega
  have c3 : (x.kind == 2) = false := by simp [h1]
  have c4 : (x.kind == 3) = true := by simp [h1]
  have d1 : (x.mode == 1) = false := by simpa using m1
  have d2 : (x.mode == 2) = true := by simp [m2]
  obtain ⟨we1, we2⟩ := toList_some w1
  clear h1 m1 m2 w1
  go_enter Try.func128, Try.ntmps128
  go_wp2
  go_quiet (fail)
  go_wp2
  go_ret
  exact ⟨rfl, below_drewN (below1 _ _) _⟩

set_option maxRecDepth 100000 in
set_option maxHeartbeats 800000 in
theorem right_b3 (w : World) (x : Nd) (ka : Option Addr) (kn kc : Nat) (h1 : x.kind = 3) (m1 : ¬ x.mode = 1) (m2 : x.mode = 2) (s1 : x.slot = false) (w1 : x.want.size = 0) (n1 : ¬ x.name.size = 0) :
    Calls Try.prog 128 #[ndVal x (.slice ka kn kc)] w fun e w' => e = .returned (I (mkE x)) ∧ Below w.heap.size w w' := by
  have hv : mkE x = 1 := by simp [mkE, h1, m2, s1, w1, n1, named_empty w1]
  rw [hv]
  clear hv
  have c1 : 1 ≤ x.kind := by omega
  have c2 : x.kind ≤ 4 := by omega
  have c3 : (x.kind == 2) = false := by simp [h1]
  have c4 : (x.kind == 3) = true := by simp [h1]
  have d1 : (x.mode == 1) = false := by simpa using m1
  have d2 : (x.mode == 2) = true := by simp [m2]
  obtain ⟨we1, we2⟩ := toList_empty w1
  have we3 := named_empty w1
  obtain ⟨ne1, ne2⟩ := toList_some n1
  clear h1 m1 m2 w1 n1
  go_enter Try.func128, Try.ntmps128
  go_wp2
  go_quiet (fail)
  go_wp2
  go_ret
  exact ⟨rfl, below_drewN (below1 _ _) _⟩

set_option maxRecDepth 100000 in
set_option maxHeartbeats 800000 in
theorem right_b4 (w : World) (x : Nd) (ka : Option Addr) (kn kc : Nat) (h1 : x.kind = 3) (m1 : ¬ x.mode = 1) (m2 : x.mode = 2) (s1 : x.slot = false) (w1 : x.want.size = 0) (n1 : x.name.size = 0) :
    Calls Try.prog 128 #[ndVal x (.slice ka kn kc)] w fun e w' => e = .returned (I (mkE x)) ∧ Below w.heap.size w w' := by
  have hv : mkE x = 0 := by simp [mkE, h1, m2, s1, w1, n1, named_empty n1, named_empty w1]
  rw [hv]
  clear hv
  have c1 : 1 ≤ x.kind := by omega
  have c2 : x.kind ≤ 4 := by omega
  have c3 : (x.kind == 2) = false := by simp [h1]
  have c4 : (x.kind == 3) = true := by simp [h1]
  have d1 : (x.mode == 1) = false := by simpa using m1
  have d2 : (x.mode == 2) = true := by simp [m2]
  obtain ⟨we1, we2⟩ := toList_empty w1
  have we3 := named_empty w1
  obtain ⟨ne1, ne2⟩ := toList_empty n1
  have ne3 := named_empty n1
  clear h1 m1 m2 w1 n1
  go_enter Try.func128, Try.ntmps128
  go_wp2
  go_quiet (fail)
  go_wp2_with fail
  refine (named_calls _ _).mono ?_
  rintro e w1 ⟨rfl, hb1⟩
  obtain ⟨hc1, hf1⟩ := bcell hb1
  have HB1 := Lib.hid hb1
  clear hb1
  go_wp2_with fail
  refine (named_calls _ _).mono ?_
  rintro e w2 ⟨rfl, hb2⟩
  clear hc1 hf1
  go_wp2
  go_ret
  exact ⟨rfl, Below.step (Below.step (below_drewN (below1 _ _) _) HB1.out) hb2⟩

set_option maxRecDepth 100000 in
set_option maxHeartbeats 800000 in
theorem right_c1 (w : World) (x : Nd) (ka : Option Addr) (kn kc : Nat) (h1 : 1 ≤ x.kind) (h2 : x.kind ≤ 4) (h3 : ¬ x.kind = 3) (h4 : ¬ x.kind = 2) (m1 : ¬ x.mode = 1) (m2 : ¬ x.mode = 2) (m3 : x.mode = 0) (s1 : x.slot = true) :
    Calls Try.prog 128 #[ndVal x (.slice ka kn kc)] w fun e w' => e = .returned (I (mkE x)) ∧ Below w.heap.size w w' := by
  have hv : mkE x = 1 := by
    have h5 : ¬ (x.kind < 1 ∨ 4 < x.kind) := by omega
    unfold mkE; rw [if_neg (by omega)]; simp [h3, h4, m3, s1]
  rw [hv]
  clear hv
  have c4 : (x.kind == 3) = false := by simpa using h3
  have c3 : (x.kind == 2) = false := by simpa using h4
  have d1 : (x.mode == 1) = false := by simpa using m1
  have d2 : (x.mode == 2) = false := by simpa using m2
  have d3 : (x.mode != 0) = false := by simp [m3]
  clear h3 h4 m1 m2 m3
  go_enter Try.func128, Try.ntmps128
  go_wp2
  go_quiet (fail)
  go_wp2
  go_ret
  exact ⟨rfl, below_drewN (below1 _ _) _⟩

set_option maxRecDepth 100000 in
set_option maxHeartbeats 800000 in
theorem right_c2 (w : World) (x : Nd) (ka : Option Addr) (kn kc : Nat) (h1 : 1 ≤ x.kind) (h2 : x.kind ≤ 4) (h3 : ¬ x.kind = 3) (h4 : ¬ x.kind = 2) (m1 : ¬ x.mode = 1) (m2 : ¬ x.mode = 2) (m3 : x.mode = 0) (s1 : x.slot = false) (w1 : ¬ x.want.size = 0) :
    Calls Try.prog 128 #[ndVal x (.slice ka kn kc)] w fun e w' => e = .returned (I (mkE x)) ∧ Below w.heap.size w w' := by
  have hv : mkE x = 1 := by
    have h5 : ¬ (x.kind < 1 ∨ 4 < x.kind) := by omega
    unfold mkE; rw [if_neg (by omega)]; simp [h3, h4, m3, s1, w1]
  rw [hv]
  clear hv
  have c4 : (x.kind == 3) = false := by simpa using h3
  have c3 : (x.kind == 2) = false := by simpa using h4
  have d1 : (x.mode == 1) = false := by simpa using m1
  have d2 : (x.mode == 2) = false := by simpa using m2
  have d3 : (x.mode != 0) = false := by simp [m3]
  obtain ⟨we1, we2⟩ := toList_some w1
  clear h3 h4 m1 m2 m3 w1
  go_enter Try.func128, Try.ntmps128
  go_wp2
  go_quiet (fail)
  go_wp2
  go_ret
  exact ⟨rfl, below_drewN (below1 _ _) _⟩

set_option maxRecDepth 100000 in
set_option maxHeartbeats 800000 in
theorem right_c3 (w : World) (x : Nd) (ka : Option Addr) (kn kc : Nat) (h1 : 1 ≤ x.kind) (h2 : x.kind ≤ 4) (h3 : ¬ x.kind = 3) (h4 : ¬ x.kind = 2) (m1 : ¬ x.mode = 1) (m2 : ¬ x.mode = 2) (m3 : x.mode = 0) (s1 : x.slot = false) (w1 : x.want.size = 0) (n1 : ¬ x.name.size = 0) :
    Calls Try.prog 128 #[ndVal x (.slice ka kn kc)] w fun e w' => e = .returned (I (mkE x)) ∧ Below w.heap.size w w' := by
  have hv : mkE x = 1 := by
    have h5 : ¬ (x.kind < 1 ∨ 4 < x.kind) := by omega
    unfold mkE; rw [if_neg (by omega)]; simp [h3, h4, m3, s1, w1, n1, named_empty w1]
  rw [hv]
  clear hv
  have c4 : (x.kind == 3) = false := by simpa using h3
  have c3 : (x.kind == 2) = false := by simpa using h4
  have d1 : (x.mode == 1) = false := by simpa using m1
  have d2 : (x.mode == 2) = false := by simpa using m2
  have d3 : (x.mode != 0) = false := by simp [m3]
  obtain ⟨we1, we2⟩ := toList_empty w1
  have we3 := named_empty w1
  obtain ⟨ne1, ne2⟩ := toList_some n1
  clear h3 h4 m1 m2 m3 w1 n1
  go_enter Try.func128, Try.ntmps128
  go_wp2
  go_quiet (fail)
  go_wp2
  go_ret
  exact ⟨rfl, below_drewN (below1 _ _) _⟩

set_option maxRecDepth 100000 in
set_option maxHeartbeats 800000 in
theorem right_c4 (w : World) (x : Nd) (ka : Option Addr) (kn kc : Nat) (h1 : 1 ≤ x.kind) (h2 : x.kind ≤ 4) (h3 : ¬ x.kind = 3) (h4 : ¬ x.kind = 2) (m1 : ¬ x.mode = 1) (m2 : ¬ x.mode = 2) (m3 : x.mode = 0) (s1 : x.slot = false) (w1 : x.want.size = 0) (n1 : x.name.size = 0) :
    Calls Try.prog 128 #[ndVal x (.slice ka kn kc)] w fun e w' => e = .returned (I (mkE x)) ∧ Below w.heap.size w w' := by
  have hv : mkE x = 0 := by
    have h5 : ¬ (x.kind < 1 ∨ 4 < x.kind) := by omega
    unfold mkE; rw [if_neg (by omega)]; simp [h3, h4, m3, s1, w1, n1, named_empty n1, named_empty w1]
  rw [hv]
  clear hv
  have c4 : (x.kind == 3) = false := by simpa using h3
  have c3 : (x.kind == 2) = false := by simpa using h4
  have d1 : (x.mode == 1) = false := by simpa using m1
  have d2 : (x.mode == 2) = false := by simpa using m2
  have d3 : (x.mode != 0) = false := by simp [m3]
  obtain ⟨we1, we2⟩ := toList_empty w1
  have we3 := named_empty w1
  obtain ⟨ne1, ne2⟩ := toList_empty n1
  have ne3 := named_empty n1
  clear h3 h4 m1 m2 m3 w1 n1
  go_enter Try.func128, Try.ntmps128
  go_wp2
  go_quiet (fail)
  go_wp2_with fail
  refine (named_calls _ _).mono ?_
  rintro e w1 ⟨rfl, hb1⟩
  obtain ⟨hc1, hf1⟩ := bcell hb1
  have HB1 := Lib.hid hb1
  clear hb1
  go_wp2_with fail
  refine (named_calls _ _).mono ?_
  rintro e w2 ⟨rfl, hb2⟩
  clear hc1 hf1
  go_wp2
  go_ret
  exact ⟨rfl, Below.step (Below.step (below_drewN (below1 _ _) _) HB1.out) hb2⟩

set_option maxRecDepth 100000 in
set_option maxHeartbeats 800000 in
theorem right_e1 (w : World) (x : Nd) (ka : Option Addr) (kn kc : Nat) (h1 : x.kind = 2) (m1 : ¬ x.mode = 1) (m2 : ¬ x.mode = 2) (m3 : x.mode = 0) (s1 : x.slot = true) (n1 : x.name.size = 0) (q1 : namedB x.want = true) :
    Calls Try.prog 128 #[ndVal x (.slice ka kn kc)] w fun e w' => e = .returned (I (mkE x)) ∧ Below w.heap.size w w' := by
  have hv : mkE x = 0 := by simp [mkE, h1, m3, s1, n1, q1, named_empty n1]
  rw [hv]
  clear hv
  have c1 : 1 ≤ x.kind := by omega
  have c2 : x.kind ≤ 4 := by omega
  have c3 : (x.kind == 2) = true := by simp [h1]
  have c4 : (x.kind == 3) = false := by simp [h1]
  have d1 : (x.mode == 1) = false := by simpa using m1
  have d2 : (x.mode == 2) = false := by simpa using m2
  have d3 : (x.mode != 0) = false := by simp [m3]
  obtain ⟨ne1, ne2⟩ := toList_empty n1
  have ne3 := named_empty n1
  clear h1 m1 m2 m3 n1
  go_enter Try.func128, Try.ntmps128
  go_wp2
  go_quiet (fail)
  go_wp2_with fail
  refine (named_calls _ _).mono ?_
  rintro e w1 ⟨rfl, hb1⟩
  obtain ⟨hc1, hf1⟩ := bcell hb1
  have HB1 := Lib.hid hb1
  clear hb1
  go_wp2_with fail
  refine (named_calls _ _).mono ?_
  rintro e w2 ⟨rfl, hb2⟩
  clear hc1 hf1
  go_wp2
  go_ret
  exact ⟨rfl, Below.step (Below.step (below_drewN (below1 _ _) _) HB1.out) hb2⟩

set_option maxRecDepth 100000 in
set_option maxHeartbeats 800000 in
theorem right_e2 (w : World) (x : Nd) (ka : Option Addr) (kn kc : Nat) (h1 : x.kind = 2) (m1 : ¬ x.mode = 1) (m2 : ¬ x.mode = 2) (m3 : x.mode = 0) (s1 : x.slot = true) (n1 : x.name.size = 0) (q1 : namedB x.want = false) :
    Calls Try.prog 128 #[ndVal x (.slice ka kn kc)] w fun e w' => e = .returned (I (mkE x)) ∧ Below w.heap.size w w' := by
  have hv : mkE x = 1 := by simp [mkE, h1, m3, s1, n1, q1, named_empty n1]
  rw [hv]
  clear hv
  have c1 : 1 ≤ x.kind := by omega
  have c2 : x.kind ≤ 4 := by omega
  have c3 : (x.kind == 2) = true := by simp [h1]
  have c4 : (x.kind == 3) = false := by simp [h1]
  have d1 : (x.mode == 1) = false := by simpa using m1
  have d2 : (x.mode == 2) = false := by simpa using m2
  have d3 : (x.mode != 0) = false := by simp [m3]
  obtain ⟨ne1, ne2⟩ := toList_empty n1
  have ne3 := named_empty n1
  clear h1 m1 m2 m3 n1
  go_enter Try.func128, Try.ntmps128
  go_wp2
  go_quiet (fail)
  go_wp2_with fail
  refine (named_calls _ _).mono ?_
  rintro e w1 ⟨rfl, hb1⟩
  obtain ⟨hc1, hf1⟩ := bcell hb1
  have HB1 := Lib.hid hb1
  clear hb1
  go_wp2_with fail
  refine (named_calls _ _).mono ?_
  rintro e w2 ⟨rfl, hb2⟩
  clear hc1 hf1
  go_wp2
  go_ret
  exact ⟨rfl, Below.step (Below.step (below_drewN (below1 _ _) _) HB1.out) hb2⟩

set_option maxRecDepth 100000 in
set_option maxHeartbeats 800000 in
theorem right_e3 (w : World) (x : Nd) (ka : Option Addr) (kn kc : Nat) (h1 : x.kind = 2) (m1 : ¬ x.mode = 1) (m2 : ¬ x.mode = 2) (m3 : x.mode = 0) (s1 : x.slot = true) (n1 : ¬ x.name.size = 0) (q0 : namedB x.name = false) :
    Calls Try.prog 128 #[ndVal x (.slice ka kn kc)] w fun e w' => e = .returned (I (mkE x)) ∧ Below w.heap.size w w' := by
  have hv : mkE x = 1 := by simp [mkE, h1, m3, s1, n1, q0]
  rw [hv]
  clear hv
  have c1 : 1 ≤ x.kind := by omega
  have c2 : x.kind ≤ 4 := by omega
  have c3 : (x.kind == 2) = true := by simp [h1]
  have c4 : (x.kind == 3) = false := by simp [h1]
  have d1 : (x.mode == 1) = false := by simpa using m1
  have d2 : (x.mode == 2) = false := by simpa using m2
  have d3 : (x.mode != 0) = false := by simp [m3]
  obtain ⟨ne1, ne2⟩ := toList_some n1
  clear h1 m1 m2 m3 n1
  go_enter Try.func128, Try.ntmps128
  go_wp2
  go_quiet (fail)
  go_wp2_with fail
  refine (named_calls _ _).mono ?_
  rintro e w1 ⟨rfl, hb1⟩
  go_wp2
  go_ret
  exact ⟨rfl, Below.step (below_drewN (below1 _ _) _) hb1⟩

set_option maxRecDepth 100000 in
set_option maxHeartbeats 800000 in
theorem right_e4 (w : World) (x : Nd) (ka : Option Addr) (kn kc : Nat) (h1 : x.kind = 2) (m1 : ¬ x.mode = 1) (m2 : ¬ x.mode = 2) (m3 : x.mode = 0) (s1 : x.slot = true) (n1 : ¬ x.name.size = 0) (q0 : namedB x.name = true) (q1 : namedB x.want = true) :
    Calls Try.prog 128 #[ndVal x (.slice ka kn kc)] w fun e w' => e = .returned (I (mkE x)) ∧ Below w.heap.size w w' := by
  have hv : mkE x = 0 := by simp [mkE, h1, m3, s1, n1, q0, q1]
  rw [hv]
  clear hv
  have c1 : 1 ≤ x.kind := by omega
  have c2 : x.kind ≤ 4 := by omega
  have c3 : (x.kind == 2) = true := by simp [h1]
  have c4 : (x.kind == 3) = false := by simp [h1]
  have d1 : (x.mode == 1) = false := by simpa using m1
  have d2 : (x.mode == 2) = false := by simpa using m2
  have d3 : (x.mode != 0) = false := by simp [m3]
  obtain ⟨ne1, ne2⟩ := toList_some n1
  clear h1 m1 m2 m3 n1
  go_enter Try.func128, Try.ntmps128
  go_wp2
  go_quiet (fail)
  go_wp2_with fail
  refine (named_calls _ _).mono ?_
  rintro e w1 ⟨rfl, hb1⟩
  obtain ⟨hc1, hf1⟩ := bcell hb1
  have HB1 := Lib.hid hb1
  clear hb1
  go_wp2_with fail
  refine (named_calls _ _).mono ?_
  rintro e w2 ⟨rfl, hb2⟩
  clear hc1 hf1
  go_wp2
  go_ret
  exact ⟨rfl, Below.step (Below.step (below_drewN (below1 _ _) _) HB1.out) hb2⟩

set_option maxRecDepth 100000 in
set_option maxHeartbeats 800000 in
theorem right_e5 (w : World) (x : Nd) (ka : Option Addr) (kn kc : Nat) (h1 : x.kind = 2) (m1 : ¬ x.mode = 1) (m2 : ¬ x.mode = 2) (m3 : x.mode = 0) (s1 : x.slot = true) (n1 : ¬ x.name.size = 0) (q0 : namedB x.name = true) (q1 : namedB x.want = false) :
    Calls Try.prog 128 #[ndVal x (.slice ka kn kc)] w fun e w' => e = .returned (I (mkE x)) ∧ Below w.heap.size w w' := by
  have hv : mkE x = 1 := by simp [mkE, h1, m3, s1, n1, q0, q1]
  rw [hv]
  clear hv
  have c1 : 1 ≤ x.kind := by omega
  have c2 : x.kind ≤ 4 := by omega
  have c3 : (x.kind == 2) = true := by simp [h1]
  have c4 : (x.kind == 3) = false := by simp [h1]
  have d1 : (x.mode == 1) = false := by simpa using m1
  have d2 : (x.mode == 2) = false := by simpa using m2
  have d3 : (x.mode != 0) = false := by simp [m3]
  obtain ⟨ne1, ne2⟩ := toList_some n1
  clear h1 m1 m2 m3 n1
  go_enter Try.func128, Try.ntmps128
  go_wp2
  go_quiet (fail)
  go_wp2_with fail
  refine (named_calls _ _).mono ?_
  rintro e w1 ⟨rfl, hb1⟩
  obtain ⟨hc1, hf1⟩ := bcell hb1
  have HB1 := Lib.hid hb1
  clear hb1
  go_wp2_with fail
  refine (named_calls _ _).mono ?_
  rintro e w2 ⟨rfl, hb2⟩
  clear hc1 hf1
  go_wp2
  go_ret
  exact ⟨rfl, Below.step (Below.step (below_drewN (below1 _ _) _) HB1.out) hb2⟩

set_option maxRecDepth 100000 in
set_option maxHeartbeats 800000 in
theorem right_f1 (w : World) (x : Nd) (ka : Option Addr) (kn kc : Nat) (h1 : x.kind = 2) (m1 : ¬ x.mode = 1) (m2 : ¬ x.mode = 2) (m3 : x.mode = 0) (s1 : x.slot = false) (w1 : x.want.size = 0) (n1 : ¬ x.name.size = 0) :
    Calls Try.prog 128 #[ndVal x (.slice ka kn kc)] w fun e w' => e = .returned (I (mkE x)) ∧ Below w.heap.size w w' := by
  have hv : mkE x = 1 := by simp [mkE, h1, m3, s1, w1, n1, named_empty w1]
  rw [hv]
  clear hv
  have c1 : 1 ≤ x.kind := by omega
  have c2 : x.kind ≤ 4 := by omega
  have c3 : (x.kind == 2) = true := by simp [h1]
  have c4 : (x.kind == 3) = false := by simp [h1]
  have d1 : (x.mode == 1) = false := by simpa using m1
  have d2 : (x.mode == 2) = false := by simpa using m2
  have d3 : (x.mode != 0) = false := by simp [m3]
  obtain ⟨we1, we2⟩ := toList_empty w1
  have we3 := named_empty w1
  obtain ⟨ne1, ne2⟩ := toList_some n1
  clear h1 m1 m2 m3 w1 n1
  go_enter Try.func128, Try.ntmps128
  go_wp2
  go_quiet (fail)
  go_wp2
  go_ret
  exact ⟨rfl, below_drewN (below1 _ _) _⟩

set_option maxRecDepth 100000 in
set_option maxHeartbeats 800000 in
theorem right_f2 (w : World) (x : Nd) (ka : Option Addr) (kn kc : Nat) (h1 : x.kind = 2) (m1 : ¬ x.mode = 1) (m2 : ¬ x.mode = 2) (m3 : x.mode = 0) (s1 : x.slot = false) (w1 : x.want.size = 0) (n1 : x.name.size = 0) :
    Calls Try.prog 128 #[ndVal x (.slice ka kn kc)] w fun e w' => e = .returned (I (mkE x)) ∧ Below w.heap.size w w' := by
  have hv : mkE x = 0 := by simp [mkE, h1, m3, s1, w1, n1, named_empty n1, named_empty w1]
  rw [hv]
  clear hv
  have c1 : 1 ≤ x.kind := by omega
  have c2 : x.kind ≤ 4 := by omega
  have c3 : (x.kind == 2) = true := by simp [h1]
  have c4 : (x.kind == 3) = false := by simp [h1]
  have d1 : (x.mode == 1) = false := by simpa using m1
  have d2 : (x.mode == 2) = false := by simpa using m2
  have d3 : (x.mode != 0) = false := by simp [m3]
  obtain ⟨we1, we2⟩ := toList_empty w1
  have we3 := named_empty w1
  obtain ⟨ne1, ne2⟩ := toList_empty n1
  have ne3 := named_empty n1
  clear h1 m1 m2 m3 w1 n1
  go_enter Try.func128, Try.ntmps128
  go_wp2
  go_quiet (fail)
  go_wp2_with fail
  refine (named_calls _ _).mono ?_
  rintro e w1 ⟨rfl, hb1⟩
  obtain ⟨hc1, hf1⟩ := bcell hb1
  have HB1 := Lib.hid hb1
  clear hb1
  go_wp2_with fail
  refine (named_calls _ _).mono ?_
  rintro e w2 ⟨rfl, hb2⟩
  clear hc1 hf1
  go_wp2
  go_ret
  exact ⟨rfl, Below.step (Below.step (below_drewN (below1 _ _) _) HB1.out) hb2⟩

set_option maxRecDepth 100000 in
set_option maxHeartbeats 800000 in
theorem right_g1 (w : World) (x : Nd) (ka : Option Addr) (kn kc : Nat) (h1 : x.kind = 2) (m1 : ¬ x.mode = 1) (m2 : ¬ x.mode = 2) (m3 : x.mode = 0) (s1 : x.slot = false) (w1 : ¬ x.want.size = 0) (n1 : ¬ x.name.size = 0) :
    Calls Try.prog 128 #[ndVal x (.slice ka kn kc)] w fun e w' => e = .returned (I (mkE x)) ∧ Below w.heap.size w w' := by
  have hv : mkE x = 1 := by simp [mkE, h1, m3, s1, w1, n1]
  rw [hv]
  clear hv
  have c1 : 1 ≤ x.kind := by omega
  have c2 : x.kind ≤ 4 := by omega
  have c3 : (x.kind == 2) = true := by simp [h1]
  have c4 : (x.kind == 3) = false := by simp [h1]
  have d1 : (x.mode == 1) = false := by simpa using m1
  have d2 : (x.mode == 2) = false := by simpa using m2
  have d3 : (x.mode != 0) = false := by simp [m3]
  obtain ⟨we1, we2⟩ := toList_some w1
  obtain ⟨ne1, ne2⟩ := toList_some n1
  clear h1 m1 m2 m3 w1 n1
  go_enter Try.func128, Try.ntmps128
  go_wp2
  go_quiet (fail)
  go_wp2
  go_ret
  exact ⟨rfl, below_drewN (below1 _ _) _⟩

set_option maxRecDepth 100000 in
set_option maxHeartbeats 800000 in
theorem right_g2 (w : World) (x : Nd) (ka : Option Addr) (kn kc : Nat) (h1 : x.kind = 2) (m1 : ¬ x.mode = 1) (m2 : ¬ x.mode = 2) (m3 : x.mode = 0) (s1 : x.slot = false) (w1 : ¬ x.want.size = 0) (n1 : x.name.size = 0) (q1 : namedB x.want = true) :
    Calls Try.prog 128 #[ndVal x (.slice ka kn kc)] w fun e w' => e = .returned (I (mkE x)) ∧ Below w.heap.size w w' := by
  have hv : mkE x = 0 := by simp [mkE, h1, m3, s1, w1, n1, q1, named_empty n1]
  rw [hv]
  clear hv
  have c1 : 1 ≤ x.kind := by omega
  have c2 : x.kind ≤ 4 := by omega
  have c3 : (x.kind == 2) = true := by simp [h1]
  have c4 : (x.kind == 3) = false := by simp [h1]
  have d1 : (x.mode == 1) = false := by simpa using m1
  have d2 : (x.mode == 2) = false := by simpa using m2
  have d3 : (x.mode != 0) = false := by simp [m3]
  obtain ⟨we1, we2⟩ := toList_some w1
  obtain ⟨ne1, ne2⟩ := toList_empty n1
  have ne3 := named_empty n1
  clear h1 m1 m2 m3 w1 n1
  go_enter Try.func128, Try.ntmps128
  go_wp2
  go_quiet (fail)
  go_wp2_with fail
  refine (named_calls _ _).mono ?_
  rintro e w1 ⟨rfl, hb1⟩
  obtain ⟨hc1, hf1⟩ := bcell hb1
  have HB1 := Lib.hid hb1
  clear hb1
  go_wp2_with fail
  refine (named_calls _ _).mono ?_
  rintro e w2 ⟨rfl, hb2⟩
  clear hc1 hf1
  go_wp2
  go_ret
  exact ⟨rfl, Below.step (Below.step (below_drewN (below1 _ _) _) HB1.out) hb2⟩

set_option maxRecDepth 100000 in
set_option maxHeartbeats 800000 in
theorem right_g3 (w : World) (x : Nd) (ka : Option Addr) (kn kc : Nat) (h1 : x.kind = 2) (m1 : ¬ x.mode = 1) (m2 : ¬ x.mode = 2) (m3 : x.mode = 0) (s1 : x.slot = false) (w1 : ¬ x.want.size = 0) (n1 : x.name.size = 0) (q1 : namedB x.want = false) :
    Calls Try.prog 128 #[ndVal x (.slice ka kn kc)] w fun e w' => e = .returned (I (mkE x)) ∧ Below w.heap.size w w' := by
  have hv : mkE x = 1 := by simp [mkE, h1, m3, s1, w1, n1, q1, named_empty n1]
  rw [hv]
  clear hv
  have c1 : 1 ≤ x.kind := by omega
  have c2 : x.kind ≤ 4 := by omega
  have c3 : (x.kind == 2) = true := by simp [h1]
  have c4 : (x.kind == 3) = false := by simp [h1]
  have d1 : (x.mode == 1) = false := by simpa using m1
  have d2 : (x.mode == 2) = false := by simpa using m2
  have d3 : (x.mode != 0) = false := by simp [m3]
  obtain ⟨we1, we2⟩ := toList_some w1
  obtain ⟨ne1, ne2⟩ := toList_empty n1
  have ne3 := named_empty n1
  clear h1 m1 m2 m3 w1 n1
  go_enter Try.func128, Try.ntmps128
  go_wp2
  go_quiet (fail)
  go_wp2_with fail
  refine (named_calls _ _).mono ?_
  rintro e w1 ⟨rfl, hb1⟩
  obtain ⟨hc1, hf1⟩ := bcell hb1
  have HB1 := Lib.hid hb1
  clear hb1
  go_wp2_with fail
  refine (named_calls _ _).mono ?_
  rintro e w2 ⟨rfl, hb2⟩
  clear hc1 hf1
  go_wp2
  go_ret
  exact ⟨rfl, Below.step (Below.step (below_drewN (below1 _ _) _) HB1.out) hb2⟩

theorem right_calls (w : World) (x : Nd) (ka : Option Addr) (kn kc : Nat) :
    Calls Try.prog 128 #[ndVal x (.slice ka kn kc)] w fun e w' => e = .returned (I (mkE x)) ∧ Below w.heap.size w w' := by
  by_cases k1 : x.kind < 1
  · exact right_low w x ka kn kc k1
  by_cases k4 : 4 < x.kind
  · exact right_high w x ka kn kc (by omega) k4
  have bF : ∀ b : Bool, ¬ b = true → b = false := fun b h => by simpa using h
  by_cases k3 : x.kind = 3
  · by_cases m1 : x.mode = 1
    · by_cases s1 : x.slot = true
      · exact right_a1 w x ka kn kc k3 m1 s1
      by_cases w1 : x.want.size = 0
      · by_cases n1 : x.name.size = 0
        · exact right_a4 w x ka kn kc k3 m1 (bF _ s1) w1 n1
        · exact right_a3 w x ka kn kc k3 m1 (bF _ s1) w1 n1
      · exact right_a2 w x ka kn kc k3 m1 (bF _ s1) w1
    by_cases m2 : x.mode = 2
    · by_cases s1 : x.slot = true
      · exact right_b1 w x ka kn kc k3 m1 m2 s1
      by_cases w1 : x.want.size = 0
      · by_cases n1 : x.name.size = 0
        · exact right_b4 w x ka kn kc k3 m1 m2 (bF _ s1) w1 n1
        · exact right_b3 w x ka kn kc k3 m1 m2 (bF _ s1) w1 n1
      · exact right_b2 w x ka kn kc k3 m1 m2 (bF _ s1) w1
    · exact right_m3 w x ka kn kc k3 m1 m2
  by_cases m1 : x.mode = 1
  · exact right_mN1 w x ka kn kc (by omega) (by omega) k3 m1
  by_cases m2 : x.mode = 2
  · exact right_mN2 w x ka kn kc (by omega) (by omega) k3 m1 m2
  by_cases m3 : x.mode = 0
  · by_cases k2 : x.kind = 2
    · by_cases s1 : x.slot = true
      · by_cases n1 : x.name.size = 0
        · by_cases q1 : namedB x.want = true
          · exact right_e1 w x ka kn kc k2 m1 m2 m3 s1 n1 q1
          · exact right_e2 w x ka kn kc k2 m1 m2 m3 s1 n1 (bF _ q1)
        · by_cases q0 : namedB x.name = true
          · by_cases q1 : namedB x.want = true
            · exact right_e4 w x ka kn kc k2 m1 m2 m3 s1 n1 q0 q1
            · exact right_e5 w x ka kn kc k2 m1 m2 m3 s1 n1 q0 (bF _ q1)
          · exact right_e3 w x ka kn kc k2 m1 m2 m3 s1 n1 (bF _ q0)
      · by_cases w1 : x.want.size = 0
        · by_cases n1 : x.name.size = 0
          · exact right_f2 w x ka kn kc k2 m1 m2 m3 (bF _ s1) w1 n1
          · exact right_f1 w x ka kn kc k2 m1 m2 m3 (bF _ s1) w1 n1
        · by_cases n1 : x.name.size = 0
          · by_cases q1 : namedB x.want = true
            · exact right_g2 w x ka kn kc k2 m1 m2 m3 (bF _ s1) w1 n1 q1
            · exact right_g3 w x ka kn kc k2 m1 m2 m3 (bF _ s1) w1 n1 (bF _ q1)
          · exact right_g1 w x ka kn kc k2 m1 m2 m3 (bF _ s1) w1 n1
    · by_cases s1 : x.slot = true
      · exact right_c1 w x ka kn kc (by omega) (by omega) k3 k2 m1 m2 m3 s1
      by_cases w1 : x.want.size = 0
      · by_cases n1 : x.name.size = 0
        · exact right_c4 w x ka kn kc (by omega) (by omega) k3 k2 m1 m2 m3 (bF _ s1) w1 n1
        · exact right_c3 w x ka kn kc (by omega) (by omega) k3 k2 m1 m2 m3 (bF _ s1) w1 n1
      · exact right_c2 w x ka kn kc (by omega) (by omega) k3 k2 m1 m2 m3 (bF _ s1) w1
  · exact right_mN0 w x ka kn kc (by omega) (by omega) k3 m1 m2 m3

end Go.Proofs.Ytidekbamlnpglaa

/-
  slices.Backward over a path's entries: the iterator's contract.
-/
import Derived.Test.YtidekbamlnpglaaXd
import Derived.Test.YtidekbamlnpglaaPx
import Derived.RangeFuncNested
import Derived.RangeFuncBound
import Derived.RangeFuncCalls
import Derived.RangeFuncLeaves
import Derived.RangeFuncBox
import Derived.Shelf.RegionOpen
import Derived.OwnWalkIn
import Derived.TacticsInMore
import Derived.LoopNIn
import Derived.LoopIn
namespace Go.Proofs.Ytidekbamlnpglaa
open Go.RowKit Go.Shelf Tc
attribute [local go_sem] Oper.semAt_some

abbrev spVal (s : Sp) : Value := .agg #[.int .i64 s.node, .int .i64 s.target, .int .i64 s.related, .bool s.cr, .bool s.cs]
abbrev bwEnc (x : Nat × Sp) : Array Value := #[.int .i64 (x.1 : Int), spVal x.2]

/-- What a round keeps: all that lay ahead of the caller, and the iterator's own box. -/
def KpB (n₀ Bs : Nat) (A B : World) : Prop := Below n₀ A B ∧ A.heap.size ≤ B.heap.size ∧ (Bs < A.heap.size → B.heap[Bs]? = A.heap[Bs]?)
theorem KpB.trans {n₀ Bs : Nat} {A B C : World} (h : KpB n₀ Bs A B) (k : KpB n₀ Bs B C) : KpB n₀ Bs A C :=
  ⟨h.1.trans k.1, Nat.le_trans h.2.1 k.2.1, fun hl => (k.2.2 (Nat.lt_of_lt_of_le hl h.2.1)).trans (h.2.2 hl)⟩
theorem KpB.refl (n₀ Bs : Nat) (A : World) : KpB n₀ Bs A A := ⟨Below.refl _ _, Nat.le_refl _, fun _ => rfl⟩
theorem KpB.put {n₀ Bs : Nat} {w : World} (hn : n₀ ≤ w.heap.size) (hB : Bs < w.heap.size) (W : World) (l : Nat) (o o' : Obj) (hl : w.heap.size ≤ l) (h : W.heap[l]? = some o) (hc : o.isCells = false) (hw : o.isWalk = false) : KpB n₀ Bs W (W.putObj l o') :=
  ⟨belowK_b hn W l o o' hl h hc hw, (grownBy_putObj' W l o').size, fun hb => (grownBy_putObj' W l o').block Bs hb (by intro e; cases e; omega)⟩
theorem KpB.cell {n₀ Bs : Nat} {A B : World} (h : KpB n₀ Bs A B) {v : Value} (hc : A.cell? ⟨Bs, 0, none⟩ = some v) : B.cell? ⟨Bs, 0, none⟩ = some v :=
  (World.cell?_of_block (w := A) (a := ⟨Bs, 0, none⟩) (h.2.2 (cell_lt hc))).trans hc

set_option maxRecDepth 100000 in
set_option maxHeartbeats 2000000 in
theorem bw1_in (F : Fence) (n : Nat) (hf : F.fn 149) (hro : F.round = none) (hn : 1 ≤ n) (l Bs n₀ b off cap : Nat) (P : List Sp) (hPl : P.length ≤ 1000) (hcap : P.length ≤ cap ∧ cap ≤ maxLen) (hb : b < n₀) (J Jx : List (Nat × Sp) → World → Prop)
    (hY : ∀ pre x W, J pre W → pre.length < P.length → YieldAt F (n - 1) Try.prog l (bwEnc x) W fun e W' =>
      (e = .returned (.bool true) ∧ J (pre ++ [x]) W' ∧ KpB n₀ Bs W W') ∨ (e = .returned (.bool false) ∧ Jx (pre ++ [x]) W'))
    (W : World) (hc : W.cell? ⟨Bs, 0, none⟩ = some (.slice (some ⟨b, off, none⟩) P.length cap)) (hP : StepsAt W (.slice (some ⟨b, off, none⟩) P.length cap) P) (h0 : J [] W) :
    CallsIn F n Try.prog 149 #[.func (.yield l) #[] #[], .pointer (some ⟨Bs, 0, none⟩)] W fun e W' => (∃ v, e = .returned v) ∧
      ((∃ ys, ys = comes P P.length ∧ J ys W') ∨ (∃ pre, (∃ k, k ≤ P.length ∧ pre = comes P k) ∧ Jx pre W')) := by
  obtain ⟨N, hN⟩ : ∃ N, P.length = N := ⟨_, rfl⟩
  have HN := Lib.hid hN
  have HP := Lib.hid hP
  have HY := Lib.hid hY
  rw [hN] at hc hPl hcap ⊢
  unfold maxLen at hcap
  obtain ⟨hcap1, hcap2⟩ := hcap
  clear hN hP hY
  refine callsIn_of_wp Try.func149 rfl hf ?_ hro
  simp only [Try.ntmps149, List.size_toArray, List.length_cons, List.length_nil, Nat.reduceAdd, Nat.reduceSub, Array.replicate_succ, Array.replicate_zero, List.push_toArray, List.append_toArray, List.nil_append, List.cons_append]
  gi_wp2
  gi_loopw [3] (fun i wr => ∃ r : Nat, r ≤ N ∧ i = .int .i64 ((r : Int) - 1) ∧ J (comes P (N - r)) wr ∧ KpB n₀ Bs W wr)
    (fun i _ => (intOf i + 1).toNat)
  case atStart => exact ⟨N, Nat.le_refl _, rfl, by rw [Nat.sub_self]; exact h0, KpB.refl _ _ _⟩
  case round =>
    obtain ⟨r, hr, rfl, hJs, hnx⟩ := hrel
    have hcs : wr.cell? ⟨Bs, 0, none⟩ = some (.slice (some ⟨b, off, none⟩) N cap) := hnx.cell hc
    cases r with
    | zero =>
      have hneg : decide (((0 : Nat) : Int) - 1 ≥ 0) = false := by decide
      gi_wp2
      go_end0
      exact ⟨⟨_, rfl⟩, .inl ⟨_, rfl, hJs⟩⟩
    | succ j =>
      have ej : (((j + 1 : Nat) : Int) - 1) = (j : Int) := by omega
      rw [ej]
      have hjl : j < P.length := by rw [HN.out]; omega
      have hsp := HP.out.at j hjl
      obtain ⟨s, hs⟩ : ∃ s, P[j]'hjl = s := ⟨_, rfl⟩
      rw [hs] at hsp
      have c0 := (hnx.1.cell (p := ⟨b, off + j * 5, none⟩) hb).trans hsp.c0
      have c1 := (hnx.1.cell (p := ⟨b, off + j * 5 + 1, none⟩) hb).trans hsp.c1
      have c2 := (hnx.1.cell (p := ⟨b, off + j * 5 + 2, none⟩) hb).trans hsp.c2
      have c3 := (hnx.1.cell (p := ⟨b, off + j * 5 + 3, none⟩) hb).trans hsp.c3
      have c4 := (hnx.1.cell (p := ⟨b, off + j * 5 + 4, none⟩) hb).trans hsp.c4
      have hcm : comes P (N - (j + 1)) ++ [(j, s)] = comes P (N - j) := by
        rw [show N - j = N - (j + 1) + 1 from by omega, comes_succ, HN.out, show N - 1 - (N - (j + 1)) = j from by omega, List.getD_eq_getElem?_getD, List.getElem?_eq_getElem hjl, Option.getD_some, hs]
      obtain ⟨fn, tmps, assign, body, hy, hR⟩ := HY.out _ (j, s) wr hJs (by rw [comes_length, HN.out]; omega)
      dsimp only [bwEnc, spVal] at hy
      have hj0 : (0 : Int) ≤ (j : Int) := by omega
      have hj1 : (j : Int) < (N : Int) := by omega
      have HCM := Lib.hid hcm
      clear hsp hs hcm ej
      gi_wp2
      refine hR.mono ?_
      rintro e W3 (⟨rfl, hJ3, hk3⟩ | ⟨rfl, hJx3⟩)
      · gi_wp2
        go_roundw
        case rel => exact ⟨j, by omega, rfl, by rw [← HCM.out]; exact hJ3, hnx.trans hk3⟩
        case measure => simp [intOf]
      · gi_wp2
        refine bodyPost_ret (results_none rfl _ _ _) rfl ?_
        exact ⟨⟨_, rfl⟩, .inr ⟨_, ⟨N - j, by omega, HCM.out⟩, hJx3⟩⟩

set_option maxRecDepth 100000 in
set_option maxHeartbeats 1000000 in
theorem bw1_nil_in (F : Fence) (n : Nat) (hf : F.fn 149) (hro : F.round = none) (l Bs : Nat) (J : List (Nat × Sp) → World → Prop) (W : World) (hc : W.cell? ⟨Bs, 0, none⟩ = some (.slice none 0 0)) (h0 : J [] W) :
    CallsIn F n Try.prog 149 #[.func (.yield l) #[] #[], .pointer (some ⟨Bs, 0, none⟩)] W fun e W' => (∃ v, e = .returned v) ∧ J [] W' := by
  refine callsIn_of_wp Try.func149 rfl hf ?_ hro
  simp only [Try.ntmps149, List.size_toArray, List.length_cons, List.length_nil, Nat.reduceAdd, Nat.reduceSub, Array.replicate_succ, Array.replicate_zero, List.push_toArray, List.append_toArray, List.nil_append, List.cons_append]
  gi_wp2
  gi_loopw [3] (fun i wr => i = .int .i64 (-1) ∧ J [] wr) (fun _ _ => 0)
  case atStart => exact ⟨rfl, h0⟩
  case round =>
    obtain ⟨rfl, hJs⟩ := hrel
    gi_wp2
    go_end0
    exact ⟨⟨_, rfl⟩, hJs⟩

set_option maxRecDepth 100000 in
set_option maxHeartbeats 1000000 in
theorem bw1_empty_in (F : Fence) (n : Nat) (hf : F.fn 149) (hro : F.round = none) (l Bs : Nat) (a : Addr) (cap : Nat) (hcap : cap ≤ maxLen) (J : List (Nat × Sp) → World → Prop) (W : World) (hc : W.cell? ⟨Bs, 0, none⟩ = some (.slice (some a) 0 cap)) (h0 : J [] W) :
    CallsIn F n Try.prog 149 #[.func (.yield l) #[] #[], .pointer (some ⟨Bs, 0, none⟩)] W fun e W' => (∃ v, e = .returned v) ∧ J [] W' := by
  refine callsIn_of_wp Try.func149 rfl hf ?_ hro
  simp only [Try.ntmps149, List.size_toArray, List.length_cons, List.length_nil, Nat.reduceAdd, Nat.reduceSub, Array.replicate_succ, Array.replicate_zero, List.push_toArray, List.append_toArray, List.nil_append, List.cons_append]
  unfold maxLen at hcap
  gi_wp2
  gi_loopw [3] (fun i wr => i = .int .i64 (-1) ∧ J [] wr) (fun _ _ => 0)
  case atStart => exact ⟨rfl, h0⟩
  case round =>
    obtain ⟨rfl, hJs⟩ := hrel
    gi_wp2
    go_end0
    exact ⟨⟨_, rfl⟩, hJs⟩

set_option maxHeartbeats 1000000 in
theorem bw_in (F : Fence) (n : Nat) (hf : F.fn 144) (hro : F.round = none) (a : Option Addr) (len cap : Nat) (w : World) :
    CallsIn F n Try.prog 144 #[.slice a len cap] w fun e w' => e = .returned (.func (.func 149) #[] #[.pointer (some ⟨w.heap.size, 0, none⟩)]) ∧ w' = w.alloc (.cells #[.slice a len cap] 65) := by
  refine callsIn_of_wp Try.func144 rfl hf ?_ hro
  simp only [Try.ntmps144, List.size_toArray, List.length_cons, List.length_nil, Nat.reduceAdd, Nat.reduceSub, Array.replicate_succ, Array.replicate_zero, List.push_toArray, List.append_toArray, List.nil_append, List.cons_append]
  gi_wp2
  go_ret
  exact ⟨rfl, rfl⟩

theorem bw_stops (F : Fence) (n : Nat) (hf : F.fn 149) (hro : F.round = none) (hn : 1 ≤ n) (Bs n₀ : Nat) (sv : Value) (P : List Sp) (hPl : P.length ≤ 1000) (w : World) (hn₀ : n₀ ≤ w.heap.size)
    (hc : w.cell? ⟨Bs, 0, none⟩ = some sv) (hP : StepsAt w sv P) (hlt : ∀ k, sliceBlock sv = some k → k < n₀) :
    SeqStopsK F n Try.prog 149 #[.pointer (some ⟨Bs, 0, none⟩)] bwEnc (KpB n₀ Bs) (fun ys => ys = comes P P.length) (fun pre => ∃ k, k ≤ P.length ∧ pre = comes P k) P.length w := fun l J Jx W hW _ _ hY h0 => by
  have hc' := cell_go hW hc
  have hP' := hP.below hW
  obtain ⟨ao, cap, e, h1, h2, h3⟩ := hP.open
  subst e
  by_cases hz : P.length = 0
  · have hP0 : P = [] := List.eq_nil_of_length_eq_zero hz
    subst hP0
    cases ao with
    | none =>
      obtain ⟨_, _, e, _, _, h4, _⟩ := hP
      simp only [Value.slice.injEq] at e
      obtain ⟨rfl, _, rfl⟩ := e
      obtain ⟨_, rfl⟩ := h4 rfl
      exact (bw1_nil_in F n hf hro l Bs J W hc' h0).mono fun e W' ⟨he, hj⟩ => ⟨he, .inl ⟨_, rfl, hj⟩⟩
    | some a =>
      refine (bw1_empty_in F n hf hro l Bs a cap (by simpa using h2) J W hc' h0).mono fun e W' ⟨he, hj⟩ => ⟨he, .inl ⟨_, rfl, hj⟩⟩
  · obtain ⟨b, off, rfl⟩ := h3 (by omega)
    exact bw1_in F n hf hro hn l Bs n₀ b off cap P hPl ⟨h1, h2⟩ (hlt b rfl) J Jx hY W hc' hP' h0
end Go.Proofs.Ytidekbamlnpglaa

/-
  The walks of the arena's writers: Make.
-/
import Derived.Test.YtidekbamlnpglaaWe
import Derived.Test.YtidekbamlnpglaaWc
import Derived.Test.YtidekbamlnpglaaHr
namespace Go.Proofs.Ytidekbamlnpglaa
open Go.RowKit Tc

set_option maxRecDepth 100000 in
set_option maxHeartbeats 800000 in
theorem make_bad {w : World} {hb : Nat} {S : Nat → Prop} {L : Fo} (h : FoAt w hb S L) (x : Nd) (ka : Option Addr) (kn kc : Nat) (hx : mkE x ≠ 0) :
    Calls Try.prog 79 #[.pointer (some ⟨hb, 0, none⟩), ndVal x (.slice ka kn kc)] w fun e w' => e = .returned (.tuple #[I 0, I (mkE x)]) ∧ Below w.heap.size w w' := by
  have H := Lib.hid h
  have hx' : (mkE x != 0) = true := by simpa using hx
  clear h hx
  go_enter Try.func79, Try.ntmps79
  go_wp2_with (go_at_call 128; refine (right_calls _ x ka kn kc).mono ?_; rintro e w1 ⟨rfl, hb1⟩)
  go_ret2
  exact ⟨rfl, Below.step (below1 _ _) hb1⟩

theorem FoIn.head_grown {w w' : World} {hb : Nat} {S : Nat → Prop} {L : Fo} {v : Value} {kvs : List Value} (h : FoIn w hb S L v kvs) (hg : w.grownBy w' v.ownBlock) : w'.heap[hb]? = some (.cells #[v] 91 (0, 0)) := by
  have hne : v.ownBlock ≠ some hb := fun e => by
    rcases h.row.2 with ⟨e', _⟩ | ⟨g, cap, cur, e', _, hgg, _⟩
    · rw [e'] at e; cases e
    · rw [e'] at e
      have e : some g = some hb := e
      cases e
      rw [h.head] at hgg; cases hgg
  rw [hg.block hb (lt_of_block h.head) (fun e => hne e.symm)]; exact h.head
theorem below_da (w : World) (o : Obj) : Below w.heap.size w (w.alloc o).drew := (below1 w o).drew
theorem news_at (w : World) (cs : List Value) (t : TypeId) : ∀ j u, cs[j]? = some u → (w.alloc (.cells cs.toArray t)).cell? ((⟨w.heap.size, 0, none⟩ : Addr).add j) = some u := by
  intro j u hu
  have ha : (⟨w.heap.size, 0, none⟩ : Addr).add j = ⟨w.heap.size, 0 + j, none⟩ := by
    unfold Addr.add; split
    · rename_i e; simp
    · rfl
  rw [ha, Nat.zero_add, World.cell?_alloc_at _ _ _ _ rfl]
  simpa using hu
theorem ndCells_one (x : Nd) (kv : Value) (hk : kv.oneCell' = true) : ∀ u ∈ ndCells x kv, u.oneCell' = true := by
  intro u hu
  simp only [ndCells, List.mem_cons, List.not_mem_nil, or_false] at hu
  rcases hu with rfl | rfl | rfl | rfl | rfl | rfl | rfl | rfl | rfl <;> first | rfl | exact hk
theorem row_shape {w : World} {base : Nat} {e : TypeId} {size : Nat} {v : Value} {n : Nat} {xs : List Value} (h : w.ownsRow base e size v n xs) : ∃ ao cap, v = .slice ao n cap := by
  rcases h.2 with ⟨e, e2⟩ | ⟨g, cap, cur, e, _⟩
  · exact ⟨none, 0, by rw [e, e2]⟩
  · exact ⟨_, _, e⟩

/-- What appending a node leaves. -/
structure Snocced (w w' : World) (hb : Nat) (S : Nat → Prop) (L : Fo) (x : Nd) (v v' : Value) (kvs : List Value) : Prop where
  fo : FoIn (w'.setCell ⟨hb, 0, none⟩ v') hb (fun k => S k ∨ w.heap.size ≤ k) (L ++ [x]) v' (kvs ++ [.slice none 0 0])
  grown : w.grownBy w' v.ownBlock

theorem wp_snoc {o : Oper} {a : Act} {w : World} {K : Act → World → Prop} {Q : Exit → Act → World → Prop}
    {hb : Nat} {S : Nat → Prop} {L : Fo} {ao : Option Addr} {n cap : Nat} {kvs : List Value} (s y : Operand) (ho : o.op = .call { callee := .builtin .append, args := #[s, y], argTypes := #[37, 37] })
    (hs : a.eval s = .slice ao n cap) (h : FoIn w hb S L (.slice ao n cap) kvs) (hn : n = L.length) (hl : n < 128)
    (x : Nd) (hxk : x.kids = []) (ad : Addr) (c : Nat) (hx : a.eval y = .slice (some ad) 1 c) (hnews : ∀ j u, (ndCells x (.slice none 0 0))[j]? = some u → w.cell? (ad.add j) = some u)
    (hK : ∀ va vc w', w'.cell? ⟨hb, 0, none⟩ = some (.slice ao n cap) → w'.frozen? ⟨hb, 0, none⟩ = false → Hid (Snocced w w' hb S L x (.slice ao n cap) (.slice va (n + 1) vc) kvs) → K (a.put o.dst (.slice va (n + 1) vc)) w') :
    o.wp Try.prog a w K Q := by
  obtain ⟨i0, hi, hz0, hz1, hz2⟩ := info_parts infoNode
  subst hn
  refine wp_append_sharp s y 37 ho 0 29 i0 zeroNode 9 104 Try.underlying37 hi hz0 hz1 hz2 rfl (by decide) _ L.length (foCells L kvs) hs h.row ad 1 c (ndCells x (.slice none 0 0)) hx rfl hnews (ndCells_one _ _ rfl) (by unfold maxLen; omega) (by omega) ?_
  intro v' w' hown hgr hv
  obtain ⟨va, vc, rfl⟩ := row_shape hown
  have hh := h.head_grown hgr
  exact hK va vc w' (cell_of_one hh) (free_of_one hh) ⟨h.snoc x hxk hl hown hgr hv, hgr⟩

set_option maxRecDepth 100000 in
set_option maxHeartbeats 800000 in
theorem make_good {w : World} {hb : Nat} {S : Nat → Prop} {L : Fo} (h : FoAt w hb S L) (x : Nd) (ka : Option Addr) (kn kc : Nat) (hx : mkE x = 0) (hl : L.length < 128) :
    Calls Try.prog 79 #[.pointer (some ⟨hb, 0, none⟩), ndVal x (.slice ka kn kc)] w fun e w' => e = .returned (.tuple #[I (L.length + 1), I 0]) ∧ FoAt w' hb (fun k => S k ∨ w.heap.size ≤ k) (L ++ [fresh x]) ∧ Keeps S w w' := by
  obtain ⟨v, kvs, h⟩ := h
  obtain ⟨ao, cap, rfl, hcap1, hcap2, _⟩ := h.shape
  have hc0 := h.cell
  have hlt := lt_of_block h.head
  have hfr := free_of_one h.head
  have H := Lib.hid h
  have HX := Lib.hid hx
  obtain ⟨n, hn⟩ : ∃ n, n = L.length := ⟨_, rfl⟩
  rw [← hn] at hl hc0 hcap1
  have HN := Lib.hid hn
  unfold maxLen at hcap2
  clear h hx hn
  go_enter Try.func79, Try.ntmps79
  go_wp2_with fail
  refine (right_calls _ x ka kn kc).mono ?_
  rw [HX.out]
  rintro e w1 ⟨rfl, hb1⟩
  have k0 := (hb1.cell (p := ⟨w.heap.size, 0, none⟩) (by simp)).trans (World.cell?_alloc_at _ _ _ _ rfl)
  have k4 := (hb1.cell (p := ⟨w.heap.size, 4, none⟩) (by simp)).trans (World.cell?_alloc_at _ _ _ _ rfl)
  have k5 := (hb1.cell (p := ⟨w.heap.size, 5, none⟩) (by simp)).trans (World.cell?_alloc_at _ _ _ _ rfl)
  have k6 := (hb1.cell (p := ⟨w.heap.size, 6, none⟩) (by simp)).trans (World.cell?_alloc_at _ _ _ _ rfl)
  have k7 := (hb1.cell (p := ⟨w.heap.size, 7, none⟩) (by simp)).trans (World.cell?_alloc_at _ _ _ _ rfl)
  have hc1 := ((Below.step (below1 w _) hb1).cell (p := ⟨hb, 0, none⟩) hlt).trans hc0
  have hf1 := ((Below.step (below1 w _) hb1).frozen (p := ⟨hb, 0, none⟩) hlt).trans hfr
  have hz1 : w.heap.size < w1.heap.size := by have := hb1.size; simp at this; omega
  have hlt1 : hb < w1.heap.size := by omega
  simp at k0 k4 k5 k6 k7
  have HB1 := Lib.hid hb1
  clear hb1 hc0 hfr
  go_wp2
  have hin := H.out.below (Below.step (below1 w _) HB1.out)
  have HI := Lib.hid hin
  clear hin
  refine region_but (S := (fun w' : World => w'.cell? ⟨hb, 0, none⟩ = some (.slice ao n cap) ∧ w'.cell? ⟨w.heap.size, 0, none⟩ = some (I x.kind) ∧ w'.cell? ⟨w.heap.size, 4, none⟩ = some (I x.mode) ∧ w'.cell? ⟨w.heap.size, 5, none⟩ = some (.bool x.slot) ∧ w'.cell? ⟨w.heap.size, 6, none⟩ = some (.string x.name) ∧ w'.cell? ⟨w.heap.size, 7, none⟩ = some (.string x.want))) (z := 20) (by kernel_rfl) 21 #[false, false, false, false, false, false, false, false, false, false, false, false, false, false, false, false, false, false, false, false, false] (by kernel_rfl) (by kernel_rfl) ?_
  have hS : (fun w' : World => w'.cell? ⟨hb, 0, none⟩ = some (.slice ao n cap) ∧ w'.cell? ⟨w.heap.size, 0, none⟩ = some (I x.kind) ∧ w'.cell? ⟨w.heap.size, 4, none⟩ = some (I x.mode) ∧ w'.cell? ⟨w.heap.size, 5, none⟩ = some (.bool x.slot) ∧ w'.cell? ⟨w.heap.size, 6, none⟩ = some (.string x.name) ∧ w'.cell? ⟨w.heap.size, 7, none⟩ = some (.string x.want)) w1.drew := ⟨hc1, k0, k4, k5, k6, k7⟩
  refine but_take' (i := 0) (.pointer (some ⟨hb, 0, none⟩)) rfl (by kernel_rfl) (by kernel_rfl) (by kernel_rfl) (by kernel_rfl) (fun _ _ _ h => h) (by rfl) hS (l' := #[true, false, false, false, false, false, false, false, false, false, false, false, false, false, false, false, false, false, false, false, false]) (by kernel_rfl) rfl ?_ ?_
  · intro w' hSw
    obtain ⟨s0, s1, s2, s3, s4, s5⟩ := hSw
    go_simp
  simp only [Act.put, List.setIfInBounds_toArray, List.set_cons_zero, List.set_cons_succ]
  refine but_take' (i := 1) (.pointer (some ⟨hb, 0, none⟩)) rfl (by kernel_rfl) (by kernel_rfl) (by kernel_rfl) (by kernel_rfl) (fun _ _ _ h => h) (by rfl) hS (l' := #[true, true, false, false, false, false, false, false, false, false, false, false, false, false, false, false, false, false, false, false, false]) (by kernel_rfl) rfl ?_ ?_
  · intro w' hSw
    obtain ⟨s0, s1, s2, s3, s4, s5⟩ := hSw
    go_simp
  simp only [Act.put, List.setIfInBounds_toArray, List.set_cons_zero, List.set_cons_succ]
  refine but_take' (i := 2) (.pointer (some ⟨hb, 0, none⟩)) rfl (by kernel_rfl) (by kernel_rfl) (by kernel_rfl) (by kernel_rfl) (fun _ _ _ h => h) (by rfl) hS (l' := #[true, true, true, false, false, false, false, false, false, false, false, false, false, false, false, false, false, false, false, false, false]) (by kernel_rfl) rfl ?_ ?_
  · intro w' hSw
    obtain ⟨s0, s1, s2, s3, s4, s5⟩ := hSw
    go_simp
  simp only [Act.put, List.setIfInBounds_toArray, List.set_cons_zero, List.set_cons_succ]
  refine but_take' (i := 3) (.pointer (some ⟨hb, 0, none⟩)) rfl (by kernel_rfl) (by kernel_rfl) (by kernel_rfl) (by kernel_rfl) (fun _ _ _ h => h) (by rfl) hS (l' := #[true, true, true, true, false, false, false, false, false, false, false, false, false, false, false, false, false, false, false, false, false]) (by kernel_rfl) rfl ?_ ?_
  · intro w' hSw
    obtain ⟨s0, s1, s2, s3, s4, s5⟩ := hSw
    go_simp
  simp only [Act.put, List.setIfInBounds_toArray, List.set_cons_zero, List.set_cons_succ]
  refine but_take' (i := 4) (.slice ao n cap) rfl (by kernel_rfl) (by kernel_rfl) (by kernel_rfl) (by kernel_rfl) (fun _ _ _ h => h) (by rfl) hS (l' := #[true, true, true, true, true, false, false, false, false, false, false, false, false, false, false, false, false, false, false, false, false]) (by kernel_rfl) rfl ?_ ?_
  · intro w' hSw
    obtain ⟨s0, s1, s2, s3, s4, s5⟩ := hSw
    go_simp
  simp only [Act.put, List.setIfInBounds_toArray, List.set_cons_zero, List.set_cons_succ]
  refine but_take' (i := 5) (.pointer (some ⟨w.heap.size, 0, none⟩)) rfl (by kernel_rfl) (by kernel_rfl) (by kernel_rfl) (by kernel_rfl) (fun _ _ _ h => h) (by rfl) hS (l' := #[true, true, true, true, true, true, false, false, false, false, false, false, false, false, false, false, false, false, false, false, false]) (by kernel_rfl) rfl ?_ ?_
  · intro w' hSw
    obtain ⟨s0, s1, s2, s3, s4, s5⟩ := hSw
    go_simp
  simp only [Act.put, List.setIfInBounds_toArray, List.set_cons_zero, List.set_cons_succ]
  refine but_take' (i := 6) (I x.kind) rfl (by kernel_rfl) (by kernel_rfl) (by kernel_rfl) (by kernel_rfl) (fun _ _ _ h => h) (by rfl) hS (l' := #[true, true, true, true, true, true, true, false, false, false, false, false, false, false, false, false, false, false, false, false, false]) (by kernel_rfl) rfl ?_ ?_
  · intro w' hSw
    obtain ⟨s0, s1, s2, s3, s4, s5⟩ := hSw
    go_simp
  simp only [Act.put, List.setIfInBounds_toArray, List.set_cons_zero, List.set_cons_succ]
  refine but_take' (i := 7) (.pointer (some ⟨w.heap.size, 4, none⟩)) rfl (by kernel_rfl) (by kernel_rfl) (by kernel_rfl) (by kernel_rfl) (fun _ _ _ h => h) (by rfl) hS (l' := #[true, true, true, true, true, true, true, true, false, false, false, false, false, false, false, false, false, false, false, false, false]) (by kernel_rfl) rfl ?_ ?_
  · intro w' hSw
    obtain ⟨s0, s1, s2, s3, s4, s5⟩ := hSw
    go_simp
  simp only [Act.put, List.setIfInBounds_toArray, List.set_cons_zero, List.set_cons_succ]
  refine but_take' (i := 8) (I x.mode) rfl (by kernel_rfl) (by kernel_rfl) (by kernel_rfl) (by kernel_rfl) (fun _ _ _ h => h) (by rfl) hS (l' := #[true, true, true, true, true, true, true, true, true, false, false, false, false, false, false, false, false, false, false, false, false]) (by kernel_rfl) rfl ?_ ?_
  · intro w' hSw
    obtain ⟨s0, s1, s2, s3, s4, s5⟩ := hSw
    go_simp
  simp only [Act.put, List.setIfInBounds_toArray, List.set_cons_zero, List.set_cons_succ]
  refine but_take' (i := 9) (.pointer (some ⟨w.heap.size, 5, none⟩)) rfl (by kernel_rfl) (by kernel_rfl) (by kernel_rfl) (by kernel_rfl) (fun _ _ _ h => h) (by rfl) hS (l' := #[true, true, true, true, true, true, true, true, true, true, false, false, false, false, false, false, false, false, false, false, false]) (by kernel_rfl) rfl ?_ ?_
  · intro w' hSw
    obtain ⟨s0, s1, s2, s3, s4, s5⟩ := hSw
    go_simp
  simp only [Act.put, List.setIfInBounds_toArray, List.set_cons_zero, List.set_cons_succ]
  refine but_take' (i := 10) (.bool x.slot) rfl (by kernel_rfl) (by kernel_rfl) (by kernel_rfl) (by kernel_rfl) (fun _ _ _ h => h) (by rfl) hS (l' := #[true, true, true, true, true, true, true, true, true, true, true, false, false, false, false, false, false, false, false, false, false]) (by kernel_rfl) rfl ?_ ?_
  · intro w' hSw
    obtain ⟨s0, s1, s2, s3, s4, s5⟩ := hSw
    go_simp
  simp only [Act.put, List.setIfInBounds_toArray, List.set_cons_zero, List.set_cons_succ]
  refine but_take' (i := 11) (.pointer (some ⟨w.heap.size, 6, none⟩)) rfl (by kernel_rfl) (by kernel_rfl) (by kernel_rfl) (by kernel_rfl) (fun _ _ _ h => h) (by rfl) hS (l' := #[true, true, true, true, true, true, true, true, true, true, true, true, false, false, false, false, false, false, false, false, false]) (by kernel_rfl) rfl ?_ ?_
  · intro w' hSw
    obtain ⟨s0, s1, s2, s3, s4, s5⟩ := hSw
    go_simp
  simp only [Act.put, List.setIfInBounds_toArray, List.set_cons_zero, List.set_cons_succ]
  refine but_take' (i := 12) (.string x.name) rfl (by kernel_rfl) (by kernel_rfl) (by kernel_rfl) (by kernel_rfl) (fun _ _ _ h => h) (by rfl) hS (l' := #[true, true, true, true, true, true, true, true, true, true, true, true, true, false, false, false, false, false, false, false, false]) (by kernel_rfl) rfl ?_ ?_
  · intro w' hSw
    obtain ⟨s0, s1, s2, s3, s4, s5⟩ := hSw
    go_simp
  simp only [Act.put, List.setIfInBounds_toArray, List.set_cons_zero, List.set_cons_succ]
  refine but_take' (i := 13) (.pointer (some ⟨w.heap.size, 7, none⟩)) rfl (by kernel_rfl) (by kernel_rfl) (by kernel_rfl) (by kernel_rfl) (fun _ _ _ h => h) (by rfl) hS (l' := #[true, true, true, true, true, true, true, true, true, true, true, true, true, true, false, false, false, false, false, false, false]) (by kernel_rfl) rfl ?_ ?_
  · intro w' hSw
    obtain ⟨s0, s1, s2, s3, s4, s5⟩ := hSw
    go_simp
  simp only [Act.put, List.setIfInBounds_toArray, List.set_cons_zero, List.set_cons_succ]
  refine but_take' (i := 14) (.string x.want) rfl (by kernel_rfl) (by kernel_rfl) (by kernel_rfl) (by kernel_rfl) (fun _ _ _ h => h) (by rfl) hS (l' := #[true, true, true, true, true, true, true, true, true, true, true, true, true, true, true, false, false, false, false, false, false]) (by kernel_rfl) rfl ?_ ?_
  · intro w' hSw
    obtain ⟨s0, s1, s2, s3, s4, s5⟩ := hSw
    go_simp
  simp only [Act.put, List.setIfInBounds_toArray, List.set_cons_zero, List.set_cons_succ]
  refine but_take' (i := 15) (.agg #[I x.kind, I 0, I 0, I 0, I x.mode, .bool x.slot, .string x.name, .string x.want, .slice none 0 0]) rfl (by kernel_rfl) (by kernel_rfl) (by kernel_rfl) (by kernel_rfl) (fun _ _ _ h => h) (by rfl) hS (l' := #[true, true, true, true, true, true, true, true, true, true, true, true, true, true, true, true, false, false, false, false, false]) (by kernel_rfl) rfl ?_ ?_
  · intro w' hSw
    obtain ⟨s0, s1, s2, s3, s4, s5⟩ := hSw
    go_simp
  simp only [Act.put, List.setIfInBounds_toArray, List.set_cons_zero, List.set_cons_succ]
  have HB2 := Lib.hid (below_da w1 (.cells #[I x.kind, I 0, I 0, I 0, I x.mode, .bool x.slot, .string x.name, .string x.want, .slice none 0 0] 29))
  have hown0 : ∀ k, (Value.slice ao n cap).ownBlock = some k → k ≠ w.heap.size := fun k hk e => by
    have := (H.out.row.lt k (HN.out ▸ hk)).2; omega
  have HO := Lib.hid hown0
  clear hown0
  refine but_one' (i := 16) rfl (by kernel_rfl) (by rfl) (l' := #[true, true, true, true, true, true, true, true, true, true, true, true, true, true, true, true, true, false, false, false, false]) (by kernel_rfl) ?_
  intro K hK
  go_simp
  refine hK _ _ (fun _ => ⟨(HB2.out.cell (p := ⟨hb, 0, none⟩) hlt1).trans hc1, (HB2.out.cell (p := ⟨w.heap.size, 0, none⟩) hz1).trans k0, (HB2.out.cell (p := ⟨w.heap.size, 4, none⟩) hz1).trans k4, (HB2.out.cell (p := ⟨w.heap.size, 5, none⟩) hz1).trans k5, (HB2.out.cell (p := ⟨w.heap.size, 6, none⟩) hz1).trans k6, (HB2.out.cell (p := ⟨w.heap.size, 7, none⟩) hz1).trans k7⟩) ?_
  clear hK K
  refine but_one' (i := 17) rfl (by kernel_rfl) (by rfl) (l' := #[true, true, true, true, true, true, true, true, true, true, true, true, true, true, true, true, true, true, false, false, false]) (by kernel_rfl) ?_
  intro K hK
  refine wp_snoc (.tmp 24) (.tmp 36) rfl rfl ((HN.out ▸ HI.out).below HB2.out) HN.out hl (fresh x) rfl ⟨w1.heap.size, 0, none⟩ 1 rfl (news_at _ _ _) ?_
  intro va vc w2 hh1 hh2 HS
  have hbx : ∀ j, w2.cell? ⟨w.heap.size, j, none⟩ = w1.cell? ⟨w.heap.size, j, none⟩ := fun j => by
    rw [World.cell?_of_block (a := ⟨w.heap.size, j, none⟩) (HS.out.grown.block w.heap.size (by simp; omega) (fun e => HO.out _ e.symm rfl))]
    exact HB2.out.cell (p := ⟨w.heap.size, j, none⟩) hz1
  have hS2 : (fun w' : World => w'.cell? ⟨hb, 0, none⟩ = some (.slice ao n cap) ∧ w'.cell? ⟨w.heap.size, 0, none⟩ = some (I x.kind) ∧ w'.cell? ⟨w.heap.size, 4, none⟩ = some (I x.mode) ∧ w'.cell? ⟨w.heap.size, 5, none⟩ = some (.bool x.slot) ∧ w'.cell? ⟨w.heap.size, 6, none⟩ = some (.string x.name) ∧ w'.cell? ⟨w.heap.size, 7, none⟩ = some (.string x.want)) w2 := ⟨hh1, (hbx 0).trans k0, (hbx 4).trans k4, (hbx 5).trans k5, (hbx 6).trans k6, (hbx 7).trans k7⟩
  have HSS := Lib.hid hS2
  clear hbx hS2
  refine hK _ _ (fun _ => HSS.out) ?_
  clear hK K
  simp only [Act.put, List.setIfInBounds_toArray, List.set_cons_zero, List.set_cons_succ]
  refine but_one' (i := 18) rfl (by kernel_rfl) (by rfl) (l' := #[true, true, true, true, true, true, true, true, true, true, true, true, true, true, true, true, true, true, true, false, false]) (by kernel_rfl) ?_
  intro K hK
  go_simp
  refine hK _ _ (fun _ => HSS.out) ?_
  clear hK K
  refine but_one' (i := 19) rfl (by kernel_rfl) (by rfl) (l' := #[true, true, true, true, true, true, true, true, true, true, true, true, true, true, true, true, true, true, true, true, false]) (by kernel_rfl) ?_
  intro K hK
  go_simp
  refine hK _ _ (fun _ => HSS.out) ?_
  clear hK K
  refine but_one' (i := 20) rfl (by kernel_rfl) (by rfl) (l' := #[true, true, true, true, true, true, true, true, true, true, true, true, true, true, true, true, true, true, true, true, true]) (by kernel_rfl) ?_
  intro K hK
  go_simp
  refine hK _ _ (fun h => absurd rfl h) ?_
  clear hK K HSS
  refine but_done (by kernel_rfl) ?_ _
  go_wp2
  go_ret2
  refine ⟨by rw [← HN.out]; rfl, ?_, ?_⟩
  · refine (show FoAt _ hb _ (L ++ [fresh x]) from ⟨_, _, HS.out.fo⟩).mono ?_
    rintro k _ (hk | hk)
    · exact Or.inl hk
    · exact Or.inr (by simp at hk; omega)
  · have q1 : Keeps S w w1 := Keeps.of_below (Below.step (below1 w _) HB1.out)
    have q2 := (q1.trans (Keeps.of_below HB2.out)).trans (Keeps.grown HS.out.grown (fun k hk => H.out.rowS k (HN.out ▸ hk)))
    exact q2.trans (Keeps.set (p := ⟨hb, 0, none⟩) H.out.headS _)

set_option maxRecDepth 100000 in
set_option maxHeartbeats 800000 in
theorem make_full {w : World} {hb : Nat} {S : Nat → Prop} {L : Fo} (h : FoAt w hb S L) (x : Nd) (ka : Option Addr) (kn kc : Nat) (hx : mkE x = 0) (hl : 128 ≤ L.length) :
    Calls Try.prog 79 #[.pointer (some ⟨hb, 0, none⟩), ndVal x (.slice ka kn kc)] w fun e w' => e = .returned (.tuple #[I 0, I 9]) ∧ Below w.heap.size w w' := by
  obtain ⟨v, kvs, h⟩ := h
  obtain ⟨ao, cap, rfl, hcap1, hcap2, _⟩ := h.shape
  have hc0 := h.cell
  have hlt := lt_of_block h.head
  have HX := Lib.hid hx
  obtain ⟨n, hn⟩ : ∃ n, n = L.length := ⟨_, rfl⟩
  rw [← hn] at hl hc0 hcap1
  unfold maxLen at hcap2
  clear h hx hn
  go_enter Try.func79, Try.ntmps79
  go_wp2_with fail
  refine (right_calls _ x ka kn kc).mono ?_
  rw [HX.out]
  rintro e w1 ⟨rfl, hb1⟩
  have hc1 := ((Below.step (below1 w _) hb1).cell (p := ⟨hb, 0, none⟩) hlt).trans hc0
  have HB1 := Lib.hid hb1
  clear hb1 hc0
  go_wp2
  go_ret2
  exact ⟨rfl, Below.step (below1 _ _) HB1.out⟩

/-- What a call that may change the forest leaves. -/
structure Turned (w w' : World) (hb : Nat) (S : Nat → Prop) (L' : Fo) : Prop where
  fo : FoAt w' hb (fun k => S k ∨ w.heap.size ≤ k) L'
  keeps : Keeps S w w'
theorem Turned.of_below {w w' : World} {hb : Nat} {S : Nat → Prop} {L : Fo} (h : FoAt w hb S L) (hb' : Below w.heap.size w w') : Turned w w' hb S L :=
  ⟨(h.below hb').mono fun _ _ hk => Or.inl hk, Keeps.of_below hb'⟩

theorem make_calls {w : World} {hb : Nat} {S : Nat → Prop} {L : Fo} (h : FoAt w hb S L) (x : Nd) (ka : Option Addr) (kn kc : Nat) :
    Calls Try.prog 79 #[.pointer (some ⟨hb, 0, none⟩), ndVal x (.slice ka kn kc)] w fun e w' => e = .returned (.tuple #[I (mk L x).2.1, I (mk L x).2.2]) ∧ Turned w w' hb S (mk L x).1 := by
  unfold mk
  by_cases hx : mkE x = 0
  · rw [if_neg (by simp [hx])]
    by_cases hl : 128 ≤ L.length
    · rw [if_pos hl]
      refine (make_full h x ka kn kc hx hl).mono ?_
      rintro e w' ⟨rfl, hb'⟩
      exact ⟨rfl, Turned.of_below h hb'⟩
    · rw [if_neg hl]
      refine (make_good h x ka kn kc hx (by omega)).mono ?_
      rintro e w' ⟨rfl, a, b⟩
      exact ⟨rfl, a, b⟩
  · rw [if_pos hx]
    refine (make_bad h x ka kn kc hx).mono ?_
    rintro e w' ⟨rfl, hb'⟩
    exact ⟨rfl, Turned.of_below h hb'⟩

end Go.Proofs.Ytidekbamlnpglaa

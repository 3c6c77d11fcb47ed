/-
  The walk of see.place.
-/
import Derived.Test.YtidekbamlnpglaaXe
namespace Go.Proofs.Ytidekbamlnpglaa
open Go.RowKit Go.Shelf Tc
attribute [local go_sem] Oper.semAt_some

def plAt (P : List Sp) (node : Int) : Int × Int := match placeL P node with
  | none => (-1, 0)
  | some (i, lv) => ((i : Int), lv)
abbrev SpBlk (W : World) (B : Nat) (s : Sp) : Prop := W.heap[B]? = some (.cells #[.int .i64 s.node, .int .i64 s.target, .int .i64 s.related, .bool s.cr, .bool s.cs] 70 (0, 0))
theorem spBlk_own {β : Type} (B : Nat) (f : β → Sp) : Own (fun s W => SpBlk W B (f s)) := fun s X Y row hs hg hrow =>
  (hg.block B (lt_of_block hs) (fun e' => by obtain ⟨o, ho, hc⟩ := hrow B e'.symm; rw [show X.heap[B]? = _ from hs] at ho; cases ho; cases hc)).trans hs
theorem SpBlk.cells {W : World} {B : Nat} {s : Sp} (h : SpBlk W B s) : W.cell? ⟨B, 0, none⟩ = some (.int .i64 s.node) ∧ W.cell? ⟨B, 3, none⟩ = some (.bool s.cr) ∧ W.cell? ⟨B, 4, none⟩ = some (.bool s.cs) := by
  unfold World.cell?
  simp only [show W.heap[B]? = _ from h]
  exact ⟨rfl, rfl, rfl⟩
theorem SpBlk.other {W : World} {B B' : Nat} {s : Sp} (h : SpBlk W B s) (hne : B ≠ B') (u : Value) : SpBlk (W.setCell ⟨B', 0, none⟩ u) B s := (Below.heap_setCell _ _ _ _ hne).trans h

theorem KpB.set {n₀ Bs : Nat} {A B : World} {g o : Nat} {u : Value} (h : KpB n₀ Bs A B) (h1 : n₀ ≤ g) (h2 : Bs ≠ g) : KpB n₀ Bs A (B.setCell ⟨g, o, none⟩ u) :=
  ⟨below_set h.1 h1, by have := h.2.1; simpa [World.setCell] using this, fun hb => (Below.heap_setCell _ _ _ _ h2).trans (h.2.2 hb)⟩
theorem KpB.drew {n₀ Bs : Nat} {A B : World} (h : KpB n₀ Bs A B) : KpB n₀ Bs A B.drew := ⟨h.1.drew, h.2.1, h.2.2⟩
def BoxE (W : World) (B : Nat) (t : TypeId) : Prop := ∃ v, Boxed W B t v
theorem BoxE.set {W : World} {B : Nat} {t : TypeId} {v' : Value} (h : BoxE W B t) : Boxed (W.setCell ⟨B, 0, none⟩ v') B t v' := h.elim fun _ h => h.set v'
theorem BoxE.setE {W : World} {B : Nat} {t : TypeId} {v' : Value} (h : BoxE W B t) : BoxE (W.setCell ⟨B, 0, none⟩ v') B t := ⟨_, h.set⟩
theorem BoxE.other {W : World} {B B' : Nat} {t : TypeId} {u : Value} (h : BoxE W B t) (hne : B ≠ B') : BoxE (W.setCell ⟨B', 0, none⟩ u) B t := h.elim fun _ h => ⟨_, h.other hne u⟩
/-- None of what came is a node. -/
def NoNode (pre : List (Nat × Sp)) (node : Int) : Prop := ∀ y ∈ pre.map Prod.snd, y.node ≠ node
theorem boxed_drew {W : World} {B : Nat} {t : TypeId} {v : Value} (h : Boxed W B t v) : Boxed W.drew B t v := h
theorem below_drew' {B : Nat} {w w' : World} (h : Below B w w') : Below B w w'.drew := h.drew
theorem plAt_none {P : List Sp} {node : Int} (h : placeL P node = none) : plAt P node = (-1, 0) := by unfold plAt; rw [h]
theorem plAt_some {P : List Sp} {node : Int} {i : Nat} {lv : Int} (h : placeL P node = some (i, lv)) : plAt P node = ((i : Int), lv) := by unfold plAt; rw [h]

set_option maxRecDepth 100000 in
set_option maxHeartbeats 4000000 in
theorem place_in (F : Fence) (n : Nat) (h0 : F.fn 118) (h1f : F.fn 144) (h2f : F.fn 149) (hro : F.round = none) (hn : 3 ≤ n)
    (ao : Option Addr) (N cap : Nat) (P : List Sp) (hN : P.length = N) (hPl : P.length ≤ 1000) (w : World) (hP : StepsAt w (.slice ao N cap) P) (hlt : ∀ k, sliceBlock (.slice ao N cap) = some k → k < w.heap.size) (node : Int) :
    CallsIn F n Try.prog 118 #[.slice ao N cap, .int .i64 node] w fun e W' => e = .returned (.tuple #[.int .i64 (plAt P node).1, .int .i64 (plAt P node).2]) ∧ Below w.heap.size w W' := by
  have h1 : 1 ≤ n := by omega
  have HP := Lib.hid hP
  have HL := Lib.hid hlt
  have HPL := Lib.hid hPl
  have HN := Lib.hid hN
  clear hP hlt hPl hN
  refine callsIn_of_wp_marks Try.func118 rfl h0 ?_ hro
  simp only [Try.ntmps118, List.size_toArray, List.length_cons, List.length_nil, Nat.reduceAdd, Nat.reduceSub, Array.replicate_succ, Array.replicate_zero, List.push_toArray, List.append_toArray, List.nil_append, List.cons_append]
  gi_wp2_with (gi_at_call 144; refine (bw_in F (n - 1) h1f hro _ _ _ _).mono ?_; rintro e w' ⟨rfl, rfl⟩)
  have bN := ((Boxed.new w 3 (.int .i64 node)).alloc (.cells #[.int .i64 0] 3)).alloc (.cells #[.int .i64 0] 3) |>.alloc (.cells #[.slice ao N cap] 65)
  have bA := (Boxed.new (w.alloc (.cells #[.int .i64 node] 3)) 3 (.int .i64 0)).alloc (.cells #[.int .i64 0] 3) |>.alloc (.cells #[.slice ao N cap] 65)
  have bL := (Boxed.new ((w.alloc (.cells #[.int .i64 node] 3)).alloc (.cells #[.int .i64 0] 3)) 3 (.int .i64 0)).alloc (.cells #[.slice ao N cap] 65)
  have bS := Boxed.new (((w.alloc (.cells #[.int .i64 node] 3)).alloc (.cells #[.int .i64 0] 3)).alloc (.cells #[.int .i64 0] 3)) 65 (.slice ao N cap)
  have hB0 : Below w.heap.size w ((((w.alloc (.cells #[.int .i64 node] 3)).alloc (.cells #[.int .i64 0] 3)).alloc (.cells #[.int .i64 0] 3)).alloc (.cells #[.slice ao N cap] 65)) := Below.step (Below.step (Below.step (below1 _ _) (below1 _ _)) (below1 _ _)) (below1 _ _)
  have hsz : ((((w.alloc (.cells #[.int .i64 node] 3)).alloc (.cells #[.int .i64 0] 3)).alloc (.cells #[.int .i64 0] 3)).alloc (.cells #[.slice ao N cap] 65)).heap.size = w.heap.size + 4 := by simp
  simp only [World.size_alloc] at bA bL bS
  obtain ⟨W0, hW0⟩ : ∃ W0, (((w.alloc (.cells #[.int .i64 node] 3)).alloc (.cells #[.int .i64 0] 3)).alloc (.cells #[.int .i64 0] 3)).alloc (.cells #[.slice ao N cap] 65) = W0 := ⟨_, rfl⟩
  rw [hW0] at bN bA bL bS hB0 hsz ⊢
  clear hW0
  refine wpIn_rangeFunc_ownH hro h1 (gf := 149) (lb := #[.pointer (some ⟨w.heap.size + 1 + 1 + 1, 0, none⟩)]) rfl h2f (enters_of Try.func149 (by kernel_rfl) rfl)
    (bw_stops F (n - 1) h2f hro (by omega) (w.heap.size + 1 + 1 + 1) w.heap.size (.slice ao N cap) P HPL.out W0 (by omega) bS.cell (HP.out.below hB0) HL.out) KpB.trans (KpB.put (by omega) (by omega)) (Below.refl _ _) (fun _ => rfl)
    (fun pre W => ((NoNode pre node ∧ Boxed W w.heap.size 3 (.int .i64 node)) ∧ (Boxed W (w.heap.size + 1) 3 (.int .i64 0) ∧ Boxed W (w.heap.size + 1 + 1) 3 (.int .i64 (lvF 0 (pre.map Prod.snd))))) ∧ Below w.heap.size w W)
    (fun c pre W => (c = .ret ∧ ∃ ini last, pre = ini ++ [last] ∧ NoNode ini node ∧ last.2.node = node ∧ Boxed W (w.heap.size + 1) 3 (.int .i64 (last.1 : Int)) ∧ Boxed W (w.heap.size + 1 + 1) 3 (.int .i64 (lvF 0 (ini.map Prod.snd) + b2 last.2.cr))) ∧ Below w.heap.size w W)
    (OwnFrom.and (OwnFrom.and (OwnFrom.and (ownFrom_pure _ _) (Own.from (boxed_own _ _ _) _)) (OwnFrom.and (Own.from (boxed_own _ _ _) _) (Own.from (boxed_own _ _ _) _))) (ownFrom_below (Nat.le_refl _) (by omega)))
    (fun c => OwnFrom.and (Own.from (fun s A B row hs hg hr => by
      obtain ⟨hc, ini, last, e1, e2, e3, e4, e5⟩ := hs
      exact ⟨hc, ini, last, e1, e2, e3, boxed_own _ _ (fun (_ : Unit) => _) () A B row e4 hg hr, boxed_own _ _ (fun (_ : Unit) => _) () A B row e5 hg hr⟩) _) (ownFrom_below (Nat.le_refl _) (by omega)))
    ⟨⟨⟨by intro y hy; simp at hy, bN⟩, ⟨bA, bL⟩⟩, hB0⟩
    (fun x a' W => ∃ Bx, w.heap.size + 1 + 1 < Bx ∧ SpBlk W Bx x.2 ∧ a' = { tmps := #[.slice ao N cap, .int .i64 node, undef, .pointer (some ⟨w.heap.size, 0, none⟩), .pointer (some ⟨w.heap.size + 1, 0, none⟩), .pointer (some ⟨w.heap.size + 1 + 1, 0, none⟩), .int .i64 (x.1 : Int), .pointer (some ⟨Bx, 0, none⟩), .slice ao N cap, .func (.func 149) #[] #[.pointer (some ⟨w.heap.size + 1 + 1 + 1, 0, none⟩)], .int .i64 (x.1 : Int), spVal x.2, undef, undef, undef, undef, undef, undef, undef, undef, undef, undef, undef, undef, undef, undef], defers := [] })
    (fun x a' _ X Y row hs hg hr => by obtain ⟨Bx, g1, g2, g3⟩ := hs; exact ⟨Bx, g1, spBlk_own Bx (fun (_ : Unit) => x.2) () X Y row g2 hg (fun r e => (hr r e).2), g3⟩)
    ?assign ?body ?done ?stop
  case assign =>
    rintro l pre x W K ⟨⟨⟨hne, bN1⟩, bA1, bL1⟩, hB1⟩ hK
    gi_wp2
    exact hK _ _ ((KeepsOthers.alloc _ _).from _) ⟨(Below.refl _ W).alloc hB1.size _, by simp, fun hb => (below1 W _).block _ hb⟩ ⟨⟨⟨hne, bN1.alloc _⟩, bA1.alloc _, bL1.alloc _⟩, hB1.alloc hB1.size _⟩ ⟨W.heap.size, bL1.lt, alloc_top _ _ _, rfl⟩
  case body =>
    rintro l pre x a' W hl ⟨r, hr⟩ ⟨⟨⟨hne, bN1⟩, bA1, bL1⟩, hB1⟩ ⟨Bx, hBx, bX, rfl⟩ hlen
    have hlv := lvF_bound (pre.map Prod.snd)
    rw [List.length_map] at hlv
    have hPL := HPL.out
    obtain ⟨lv, hlve⟩ : ∃ lv, lvF 0 (pre.map Prod.snd) = lv := ⟨_, rfl⟩
    rw [hlve] at bL1 hlv
    have hlv1 : -1000 ≤ lv ∧ lv ≤ 1000 := by omega
    obtain ⟨hlv2, hlv3⟩ := hlv1
    obtain ⟨xi, s⟩ := x
    have hsn : lvF 0 ((pre ++ [(xi, s)]).map Prod.snd) = lv + b2 s.cr - b2 s.cs := by rw [List.map_append, ← hlve]; exact lvF_snoc _ _ _
    obtain ⟨x0, x3, x4⟩ := SpBlk.cells bX
    obtain ⟨sn, st, sr, sc, ss⟩ := s
    simp only at x0 x3 x4
    have cN := bN1.cell
    have cA := bA1.cell
    have fA := bA1.frozen
    have cL := bL1.cell
    have fL := bL1.frozen
    have hgood : sn ≠ node → NoNode (pre ++ [(xi, (⟨sn, st, sr, sc, ss⟩ : Sp))]) node := fun hn y hy => by
      rw [List.map_append, List.mem_append] at hy
      rcases hy with hy | hy
      · exact hne y hy
      · simp only [List.map_cons, List.map_nil, List.mem_singleton] at hy; subst hy; exact hn
    have HG := Lib.hid hgood
    have HSN := Lib.hid hsn
    have HLE := Lib.hid hlve
    have HNE := Lib.hid hne
    clear hgood hsn hlve hne hlv hPL
    have hbx2 : w.heap.size + 1 + 1 ≠ Bx := by omega
    have hmo : Try.prog.follows .mixedOrders = true := by kernel_rfl
    by_cases hnode : sn = node
    · subst hnode
      cases sc
      · skip
        gi_wp2
        gi_region_with_o (fail)
        all_goals gi_wp2
        all_goals
          refine ⟨KeepsOthers.from (by repeat (first | exact KeepsOthers.refl _ | refine KeepsOthers.trans ?_ (KeepsOthers.drew _) | refine KeepsOthers.trans ?_ (KeepsOthers.setCell _ _ _))) _, ⟨rfl, pre, (xi, ⟨sn, st, sr, false, ss⟩), rfl, HNE.out, rfl, ?_, ?_⟩, ?_⟩
          · refine boxed_drew ?_
            repeat (first | exact bA1 | exact ⟨_, bA1⟩ | (refine Boxed.other ?_ (by omega) _) | (refine BoxE.set ?_) | (refine BoxE.setE ?_) | (refine BoxE.other ?_ (by omega)))
          · rw [HLE.out]
            refine boxed_drew ?_
            rw [show lv + b2 false = lv from by simp [b2]]
            repeat (first | exact bL1 | exact ⟨_, bL1⟩ | (refine Boxed.other ?_ (by omega) _) | (refine BoxE.set ?_) | (refine BoxE.setE ?_) | (refine BoxE.other ?_ (by omega)))
          · refine below_drew' ?_
            repeat (first | exact hB1 | (refine below_set ?_ (by omega)))
      · skip
        gi_wp2
        gi_region_with_o (fail)
        all_goals gi_wp2
        all_goals
          refine ⟨KeepsOthers.from (by repeat (first | exact KeepsOthers.refl _ | refine KeepsOthers.trans ?_ (KeepsOthers.drew _) | refine KeepsOthers.trans ?_ (KeepsOthers.setCell _ _ _))) _, ⟨rfl, pre, (xi, ⟨sn, st, sr, true, ss⟩), rfl, HNE.out, rfl, ?_, ?_⟩, ?_⟩
          · refine boxed_drew ?_
            repeat (first | exact bA1 | exact ⟨_, bA1⟩ | (refine Boxed.other ?_ (by omega) _) | (refine BoxE.set ?_) | (refine BoxE.setE ?_) | (refine BoxE.other ?_ (by omega)))
          · rw [HLE.out]
            refine boxed_drew ?_
            rw [show lv + b2 true = lv + 1 from by simp [b2]]
            repeat (first | exact bL1 | exact ⟨_, bL1⟩ | (refine Boxed.other ?_ (by omega) _) | (refine BoxE.set ?_) | (refine BoxE.setE ?_) | (refine BoxE.other ?_ (by omega)))
          · refine below_drew' ?_
            repeat (first | exact hB1 | (refine below_set ?_ (by omega)))
    · have hnb : (sn == node) = false := by simpa using hnode
      have x2 : ∀ q : World, q = q := fun _ => rfl
      clear x2
      cases sc <;> cases ss
      · skip
        gi_wp2
        refine ⟨KeepsOthers.from (by repeat (first | exact KeepsOthers.refl _ | refine KeepsOthers.trans ?_ (KeepsOthers.drew _) | refine KeepsOthers.trans ?_ (KeepsOthers.setCell _ _ _))) _, ?_, ⟨⟨HG.out hnode, ?_⟩, ?_, ?_⟩, ?_⟩
        · repeat (first | exact KpB.refl _ _ _ | (refine KpB.set ?_ (by omega) (by omega)))
        · repeat (first | exact bN1 | (refine Boxed.other ?_ (by omega) _))
        · repeat (first | exact bA1 | (refine Boxed.other ?_ (by omega) _))
        · rw [HSN.out]
          rw [show lv + b2 false - b2 false = lv from by simp [b2]]
          repeat (first | exact bL1 | exact ⟨_, bL1⟩ | (refine BoxE.set ?_) | (refine BoxE.setE ?_))
        · repeat (first | exact hB1 | (refine below_set ?_ (by omega)))
      · skip
        gi_wp2
        refine ⟨KeepsOthers.from (by repeat (first | exact KeepsOthers.refl _ | refine KeepsOthers.trans ?_ (KeepsOthers.drew _) | refine KeepsOthers.trans ?_ (KeepsOthers.setCell _ _ _))) _, ?_, ⟨⟨HG.out hnode, ?_⟩, ?_, ?_⟩, ?_⟩
        · repeat (first | exact KpB.refl _ _ _ | (refine KpB.set ?_ (by omega) (by omega)))
        · repeat (first | exact bN1 | (refine Boxed.other ?_ (by omega) _))
        · repeat (first | exact bA1 | (refine Boxed.other ?_ (by omega) _))
        · rw [HSN.out]
          rw [show lv + b2 false - b2 true = lv - 1 from by simp [b2]]
          repeat (first | exact bL1 | exact ⟨_, bL1⟩ | (refine BoxE.set ?_) | (refine BoxE.setE ?_))
        · repeat (first | exact hB1 | (refine below_set ?_ (by omega)))
      · skip
        gi_wp2
        refine ⟨KeepsOthers.from (by repeat (first | exact KeepsOthers.refl _ | refine KeepsOthers.trans ?_ (KeepsOthers.drew _) | refine KeepsOthers.trans ?_ (KeepsOthers.setCell _ _ _))) _, ?_, ⟨⟨HG.out hnode, ?_⟩, ?_, ?_⟩, ?_⟩
        · repeat (first | exact KpB.refl _ _ _ | (refine KpB.set ?_ (by omega) (by omega)))
        · repeat (first | exact bN1 | (refine Boxed.other ?_ (by omega) _))
        · repeat (first | exact bA1 | (refine Boxed.other ?_ (by omega) _))
        · rw [HSN.out]
          rw [show lv + b2 true - b2 false = lv + 1 from by simp [b2]]
          repeat (first | exact bL1 | exact ⟨_, bL1⟩ | (refine BoxE.set ?_) | (refine BoxE.setE ?_))
        · repeat (first | exact hB1 | (refine below_set ?_ (by omega)))
      · skip
        gi_wp2
        refine ⟨KeepsOthers.from (by repeat (first | exact KeepsOthers.refl _ | refine KeepsOthers.trans ?_ (KeepsOthers.drew _) | refine KeepsOthers.trans ?_ (KeepsOthers.setCell _ _ _))) _, ?_, ⟨⟨HG.out hnode, ?_⟩, ?_, ?_⟩, ?_⟩
        · repeat (first | exact KpB.refl _ _ _ | (refine KpB.set ?_ (by omega) (by omega)))
        · repeat (first | exact bN1 | (refine Boxed.other ?_ (by omega) _))
        · repeat (first | exact bA1 | (refine Boxed.other ?_ (by omega) _))
        · rw [HSN.out]
          rw [show lv + b2 true - b2 true = lv from by simp [b2]]
          repeat (first | exact bL1 | exact ⟨_, bL1⟩ | (refine BoxE.set ?_) | (refine BoxE.setE ?_))
        · repeat (first | exact hB1 | (refine below_set ?_ (by omega)))
  case done =>
    rintro D ys W hD rfl ⟨⟨⟨hne, bN1⟩, bA1, bL1⟩, hB1⟩ hK
    have cA := bA1.cell
    have fA := bA1.frozen
    have cL := bL1.cell
    have fL := bL1.frozen
    have hpl := plAt_none (place_done hne)
    have HPLA := Lib.hid hpl
    clear hpl
    gi_wp2
    have bA2 : Boxed ((W.setCell ⟨w.heap.size + 1, 0, none⟩ (.int .i64 (-1))).setCell ⟨w.heap.size + 1 + 1, 0, none⟩ (.int .i64 0)) (w.heap.size + 1) 3 (.int .i64 (-1)) := (bA1.set _).other (by omega) _
    have bL2 : Boxed ((W.setCell ⟨w.heap.size + 1, 0, none⟩ (.int .i64 (-1))).setCell ⟨w.heap.size + 1 + 1, 0, none⟩ (.int .i64 0)) (w.heap.size + 1 + 1) 3 (.int .i64 0) := (bL1.other (by omega) _).set _
    have hK' := ((KeepsOthers.setCell W ⟨w.heap.size + 1, 0, none⟩ (.int .i64 (-1))).trans (KeepsOthers.setCell _ ⟨w.heap.size + 1 + 1, 0, none⟩ (.int .i64 0))).same D _ hK rfl
    refine ⟨by simp, .inl ⟨_, _, rfl, run_takeDeferred hK', ?_⟩⟩
    have c5 := cell_kept bA2.cell (grownBy_putObj' _ D (.deferred none)) (fun r e => by cases e; exact ⟨_, hK', rfl⟩)
    have c6 := cell_kept bL2.cell (grownBy_putObj' _ D (.deferred none)) (fun r e => by cases e; exact ⟨_, hK', rfl⟩)
    refine ⟨.tuple #[.int .i64 (-1), .int .i64 0], ?_, by rw [HPLA.out], ?_⟩
    · simp [results, Try.f118, go_sem, c5, c6]
    · exact (below_set (below_set hB1 (by omega)) (by omega)).trans (belowK_b (w := w) (Nat.le_refl _) _ D _ _ (by omega) hK' rfl rfl)
  case stop =>
    rintro D c pre W hD ⟨k, hk, rfl⟩ ⟨⟨rfl, ini, last, e1, e2, e3, bA1, bL1⟩, hB1⟩ hK
    have hpl := plAt_some (place_stop hk e1 e2 e3)
    have HPLA := Lib.hid hpl
    clear hpl
    gi_wp2
    refine ⟨by simp, .inl ⟨_, _, rfl, run_takeDeferred hK, ?_⟩⟩
    have c5 := cell_kept bA1.cell (grownBy_putObj' _ D (.deferred none)) (fun r e => by cases e; exact ⟨_, hK, rfl⟩)
    have c6 := cell_kept bL1.cell (grownBy_putObj' _ D (.deferred none)) (fun r e => by cases e; exact ⟨_, hK, rfl⟩)
    refine ⟨.tuple #[.int .i64 (last.1 : Int), .int .i64 (lvF 0 (ini.map Prod.snd) + b2 last.2.cr)], ?_, by rw [HPLA.out], ?_⟩
    · simp [results, Try.f118, go_sem, c5, c6]
    · exact hB1.trans (belowK_b (w := w) (Nat.le_refl _) _ D _ _ (by omega) hK rfl rfl)

/-- see.place. -/
theorem place_calls {w : World} {ao : Option Addr} {cap : Nat} {P : List Sp} (hPl : P.length ≤ 1000) (hP : StepsAt w (.slice ao P.length cap) P) (hlt : ∀ k, sliceBlock (.slice ao P.length cap) = some k → k < w.heap.size) (node : Int) :
    Calls Try.prog 118 #[.slice ao P.length cap, I node] w fun e W' => e = .returned (.tuple #[I (plAt P node).1, I (plAt P node).2]) ∧ Below w.heap.size w W' :=
  callsIn_wide.1 (place_in Fence.wide 3 trivial trivial trivial rfl (by omega) ao P.length cap P rfl hPl w hP hlt node)
end Go.Proofs.Ytidekbamlnpglaa

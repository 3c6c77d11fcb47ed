/-
  Lists of calls in memory.
-/
import Derived.Test.YtidekbamlnpglaaWj
namespace Go.Proofs.Ytidekbamlnpglaa
open Go.RowKit Tc

def actCells (x : Tc.Act) (kv lv : Value) : List Value := [I x.kind, I x.a, I x.b, .string x.s, I x.n.kind, I x.n.parent, I x.n.host, I x.n.shadow, I x.n.mode, .bool x.n.slot, .string x.n.name, .string x.n.want, kv, lv]

/-- A slice of calls reads as a list. -/
def ActsAt (w : World) (v : Value) (l : List Tc.Act) : Prop :=
  ∃ ao cap, v = .slice ao l.length cap ∧ l.length ≤ cap ∧ cap ≤ maxLen ∧ (ao = none → l = [] ∧ cap = 0) ∧ (∀ a, ao = some a → l ≠ [] → a.spot = none) ∧
    ∀ b off, ao = some ⟨b, off, none⟩ → ∀ i (hi : i < l.length), ∃ kv lv, (∀ j u, (actCells l[i] kv lv)[j]? = some u → w.cell? ⟨b, off + i * 14 + j, none⟩ = some u) ∧ IntsAt w kv l[i].n.kids ∧ IntsAt w lv l[i].l

theorem IntsAt.lt {w : World} {v : Value} {l : List Int} (h : IntsAt w v l) (hne : l ≠ []) {k : Nat} (hk : sliceBlock v = some k) : k < w.heap.size := by
  obtain ⟨ao, cap, rfl, h1, h2, h3, h4, h5⟩ := h
  cases ao with
  | none => cases hk
  | some a =>
    have hs := h4 a rfl hne
    obtain ⟨b, off, sp⟩ := a
    simp only at hs
    subst hs
    have hk : b = k := by simpa [sliceBlock] using hk
    subst hk
    have hl : 0 < l.length := List.length_pos_iff.2 hne
    exact World.block_lt_of_cell? w ⟨b, off + 0, none⟩ (h5 b off rfl 0 hl)

theorem ActsAt.below {w w' : World} {v : Value} {l : List Tc.Act} (h : ActsAt w v l) (hb : Below w.heap.size w w') : ActsAt w' v l := by
  obtain ⟨ao, cap, rfl, h1, h2, h3, h4, h5⟩ := h
  refine ⟨ao, cap, rfl, h1, h2, h3, h4, fun b off e i hi => ?_⟩
  obtain ⟨kv, lv, hc, hk, hl⟩ := h5 b off e i hi
  refine ⟨kv, lv, fun j u hu => ?_, hk.below hb, hl.below hb⟩
  have q := hc j u hu
  rw [hb.cell (p := ⟨b, off + i * 14 + j, none⟩) (World.block_lt_of_cell? w _ q)]
  exact q

/-- One call of a list, as it is read. -/
structure ActAt (w : World) (b o : Nat) (x : Tc.Act) (kv lv : Value) : Prop where
  c0 : w.cell? ⟨b, o, none⟩ = some (I x.kind)
  c1 : w.cell? ⟨b, o + 1, none⟩ = some (I x.a)
  c2 : w.cell? ⟨b, o + 2, none⟩ = some (I x.b)
  c3 : w.cell? ⟨b, o + 3, none⟩ = some (.string x.s)
  c4 : w.cell? ⟨b, o + 4, none⟩ = some (I x.n.kind)
  c5 : w.cell? ⟨b, o + 5, none⟩ = some (I x.n.parent)
  c6 : w.cell? ⟨b, o + 6, none⟩ = some (I x.n.host)
  c7 : w.cell? ⟨b, o + 7, none⟩ = some (I x.n.shadow)
  c8 : w.cell? ⟨b, o + 8, none⟩ = some (I x.n.mode)
  c9 : w.cell? ⟨b, o + 9, none⟩ = some (.bool x.n.slot)
  c10 : w.cell? ⟨b, o + 10, none⟩ = some (.string x.n.name)
  c11 : w.cell? ⟨b, o + 11, none⟩ = some (.string x.n.want)
  c12 : w.cell? ⟨b, o + 12, none⟩ = some kv
  c13 : w.cell? ⟨b, o + 13, none⟩ = some lv

theorem ActAt.below {w w' : World} {b o : Nat} {x : Tc.Act} {kv lv : Value} (h : ActAt w b o x kv lv) (hb : Below w.heap.size w w') : ActAt w' b o x kv lv := by
  have hlt : b < w.heap.size := World.block_lt_of_cell? w ⟨b, o, none⟩ h.c0
  have q : ∀ j, w'.cell? ⟨b, j, none⟩ = w.cell? ⟨b, j, none⟩ := fun j => hb.cell (p := ⟨b, j, none⟩) hlt
  exact ⟨(q _).trans h.c0, (q _).trans h.c1, (q _).trans h.c2, (q _).trans h.c3, (q _).trans h.c4, (q _).trans h.c5, (q _).trans h.c6, (q _).trans h.c7, (q _).trans h.c8, (q _).trans h.c9, (q _).trans h.c10, (q _).trans h.c11, (q _).trans h.c12, (q _).trans h.c13⟩

theorem ActsAt.open {w : World} {v : Value} {l : List Tc.Act} (h : ActsAt w v l) : ∃ ao cap, v = .slice ao l.length cap ∧ l.length ≤ cap ∧ cap ≤ maxLen ∧ (0 < l.length → ∃ b off, ao = some ⟨b, off, none⟩) := by
  obtain ⟨ao, cap, rfl, h1, h2, h3, h4, h5⟩ := h
  refine ⟨ao, cap, rfl, h1, h2, fun hl => ?_⟩
  cases ao with
  | none => rw [(h3 rfl).1] at hl; simp at hl
  | some a =>
    have hs := h4 a rfl (List.ne_nil_of_length_pos hl)
    obtain ⟨b, off, sp⟩ := a
    simp only at hs
    subst hs
    exact ⟨b, off, rfl⟩

theorem ActsAt.act {w : World} {b off cap n : Nat} {l : List Tc.Act} (h : ActsAt w (.slice (some ⟨b, off, none⟩) n cap) l) (i : Nat) (hi : i < l.length) :
    ∃ kv lv, ActAt w b (off + i * 14) l[i] kv lv ∧ IntsAt w kv l[i].n.kids ∧ IntsAt w lv l[i].l := by
  obtain ⟨ao, cap', e, h1, h2, h3, h4, h5⟩ := h
  simp only [Value.slice.injEq] at e
  obtain ⟨rfl, _, rfl⟩ := e
  obtain ⟨kv, lv, hc, hk, hl⟩ := h5 b off rfl i hi
  exact ⟨kv, lv, ⟨hc 0 _ rfl, hc 1 _ rfl, hc 2 _ rfl, hc 3 _ rfl, hc 4 _ rfl, hc 5 _ rfl, hc 6 _ rfl, hc 7 _ rfl, hc 8 _ rfl, hc 9 _ rfl, hc 10 _ rfl, hc 11 _ rfl, hc 12 _ rfl, hc 13 _ rfl⟩, hk, hl⟩

def actsCells : List (Tc.Act × Value) → List Value
  | [] => []
  | p :: r => actCells p.1 (.slice none 0 0) p.2 ++ actsCells r
theorem actsCells_get : ∀ (l : List (Tc.Act × Value)) (i j : Nat) (hi : i < l.length) (_ : j < 14), (actsCells l)[i * 14 + j]? = (actCells l[i].1 (.slice none 0 0) l[i].2)[j]?
  | p :: r, 0, j, _, hj => by
    simp only [actsCells]
    rw [List.getElem?_append_left (by simp [actCells]; omega)]
    simp
  | p :: r, i + 1, j, hi, hj => by
    simp only [actsCells]
    rw [List.getElem?_append_right (by simp [actCells]; omega)]
    have := actsCells_get r i j (by simpa using hi) hj
    simp only [List.getElem_cons_succ]
    rw [← this]
    congr 1
    simp [actCells]; omega
  | [], i, j, hi, _ => by simp at hi
/-- Calls that were just laid. -/
theorem ActsAt.lay {w : World} {g cap : Nat} (ps : List (Tc.Act × Value)) (hc : ∀ j u, (actsCells ps)[j]? = some u → w.cell? ⟨g, j, none⟩ = some u) (hi : ∀ p ∈ ps, p.1.n.kids = [] ∧ IntsAt w p.2 p.1.l) (h1 : ps.length ≤ cap) (h2 : cap ≤ maxLen) :
    ActsAt w (.slice (some ⟨g, 0, none⟩) ps.length cap) (ps.map Prod.fst) := by
  refine ⟨some ⟨g, 0, none⟩, cap, by simp, by simpa using h1, h2, by simp, ?_, ?_⟩
  · intro a e _; cases e; rfl
  · intro b off e i hlt
    cases e
    have hlt' : i < ps.length := by simpa using hlt
    refine ⟨.slice none 0 0, ps[i].2, ?_, ?_, ?_⟩
    · intro j u hu
      rw [List.getElem_map] at hu
      have hj : j < 14 := by
        have := (List.getElem?_eq_some_iff.1 hu).1
        simpa [actCells] using this
      rw [Nat.zero_add]
      exact hc _ u ((actsCells_get ps i j hlt' hj).trans hu)
    · rw [List.getElem_map, (hi _ (List.getElem_mem hlt')).1]; exact IntsAt.nil w
    · rw [List.getElem_map]; exact (hi _ (List.getElem_mem hlt')).2

theorem acts_laid (w : World) (ps : List (Tc.Act × Value)) (t : TypeId) (hi : ∀ p ∈ ps, p.1.n.kids = [] ∧ IntsAt (w.alloc (.cells (actsCells ps).toArray t)) p.2 p.1.l) (h2 : ps.length ≤ 1000) :
    ActsAt (w.alloc (.cells (actsCells ps).toArray t)) (.slice (some ⟨w.heap.size, 0, none⟩) ps.length ps.length) (ps.map Prod.fst) := by
  refine ActsAt.lay ps ?_ hi (Nat.le_refl _) (by unfold maxLen; omega)
  intro j u hu
  rw [World.cell?_alloc_at _ _ _ _ rfl]
  simpa using hu

theorem FoAt.narrow {w : World} {hb : Nat} {S : Nat → Prop} {L : Fo} (h : FoAt w hb S L) : FoAt w hb (fun k => S k ∧ k < w.heap.size) L := by
  obtain ⟨v, kvs, h⟩ := h
  exact ⟨v, kvs, { h with headS := ⟨h.headS, lt_of_block h.head⟩, rowS := fun k e => ⟨h.rowS k e, (h.row.lt k e).2⟩, kidsS := fun i hi k e => ⟨h.kidsS i hi k e, ((h.kids i hi).lt k e).2⟩ }⟩
theorem Turned.to' {w w' : World} {hb B : Nat} {S : Nat → Prop} {L : Fo} (h : Turned w w' hb S L) (hS : ∀ k, S k → B ≤ k) (hB : B ≤ w.heap.size) : FoAt w' hb (fun k => B ≤ k) L ∧ Below B w w' :=
  ⟨h.fo.mono fun k _ hk => hk.elim (hS k) (fun h2 => Nat.le_trans hB h2), h.keeps.below hB hS⟩

/-- Where a law stands: its forest, and that nothing ahead of it was turned. -/
structure St (w0 w : World) (hb : Nat) (L : Fo) : Prop where
  fo : FoAt w hb (fun k => w0.heap.size ≤ k) L
  wf : WF L
  bel : Below w0.heap.size w0 w
theorem St.next {w0 w w' : World} {hb : Nat} {L : Fo} (h : St w0 w hb L) (k : Below w.heap.size w w') : St w0 w' hb L := ⟨h.fo.below k, h.wf, Below.step h.bel k⟩
theorem St.start {w0 w1 w2 w3 : World} {hb : Nat} {L : Fo} (h1 : Below w0.heap.size w0 w1) (h2 : Below w1.heap.size w1 w2) (hf : FoAt w3 hb (fun k => w2.heap.size ≤ k) L) (h3 : Below w2.heap.size w2 w3) (hW : WF L) : St w0 w3 hb L :=
  ⟨hf.mono fun k _ hk => by have := h1.size; have := h2.size; omega, hW, (Below.step (Below.step h1 h2) h3)⟩

/-- Are there no more calls than are looked at? -/
def fewB (l : List Tc.Act) : Bool := decide (l.length ≤ 300) && l.all fun x => decide (x.l.length ≤ 200)

end Go.Proofs.Ytidekbamlnpglaa

/-
  Lists of entries of a path in memory; appending one; the state of path.Make's closure.
-/
import Derived.Test.YtidekbamlnpglaaXa
namespace Go.Proofs.Ytidekbamlnpglaa
open Go.RowKit Tc

def spCells (x : Sp) : List Value := [I x.node, I x.target, I x.related, .bool x.cr, .bool x.cs]
def psCells : List Sp → List Value
  | [] => []
  | x :: r => spCells x ++ psCells r
theorem psCells_length : ∀ l : List Sp, (psCells l).length = l.length * 5
  | [] => rfl
  | x :: r => by simp only [psCells, List.length_append, List.length_cons, psCells_length r]; simp [spCells]; omega
theorem psCells_get : ∀ (l : List Sp) (i j : Nat) (hi : i < l.length) (_ : j < 5), (psCells l)[i * 5 + j]? = (spCells l[i])[j]?
  | x :: r, 0, j, _, hj => by
    simp only [psCells]
    rw [List.getElem?_append_left (by simp [spCells]; omega)]
    simp
  | x :: r, i + 1, j, hi, hj => by
    simp only [psCells]
    rw [List.getElem?_append_right (by simp [spCells]; omega)]
    have := psCells_get r i j (by simpa using hi) hj
    simp only [List.getElem_cons_succ]
    rw [← this]
    congr 1
    simp [spCells]; omega
  | [], i, j, hi, _ => by simp at hi
theorem psCells_append : ∀ l m : List Sp, psCells (l ++ m) = psCells l ++ psCells m
  | [], m => rfl
  | x :: l, m => by simp only [List.cons_append, psCells]; rw [psCells_append l m, List.append_assoc]
theorem psCells_one (l : List Sp) : ∀ u ∈ psCells l, u.oneCell' = true := by
  induction l with
  | nil => intro u hu; cases hu
  | cons x r ih =>
    intro u hu
    simp only [psCells, List.mem_append] at hu
    rcases hu with hu | hu
    · simp only [spCells, List.mem_cons, List.not_mem_nil, or_false] at hu
      rcases hu with rfl | rfl | rfl | rfl | rfl <;> rfl
    · exact ih u hu
def zeroStep : Value := .agg #[.int .i64 0, .int .i64 0, .int .i64 0, .bool false, .bool false]
theorem infoStep : (Try.prog.info? 70).map (fun i => (i.zero, i.size, i.bytes)) = some (some zeroStep, 5, 32) := by kernel_rfl
abbrev OwnP (w : World) (base : Nat) (v : Value) (l : List Sp) : Prop := w.ownsRow base 70 5 v l.length (psCells l)

/-- A slice of entries reads as a list. -/
def StepsAt (w : World) (v : Value) (l : List Sp) : Prop :=
  ∃ ao cap, v = .slice ao l.length cap ∧ l.length ≤ cap ∧ cap ≤ maxLen ∧ (ao = none → l = [] ∧ cap = 0) ∧ (∀ a, ao = some a → l ≠ [] → a.spot = none) ∧
    ∀ b off, ao = some ⟨b, off, none⟩ → ∀ i (hi : i < l.length) j, j < 5 → w.cell? ⟨b, off + i * 5 + j, none⟩ = (spCells l[i])[j]?
theorem OwnP.steps {w : World} {base : Nat} {v : Value} {l : List Sp} (h : OwnP w base v l) : StepsAt w v l := by
  have h0 := h
  rcases h.2 with ⟨rfl, h2⟩ | ⟨g, cap, cur, rfl, hb, hg, hc, hm, hs, ht⟩
  · have : l = [] := List.length_eq_zero_iff.1 h2
    subst this
    exact ⟨none, 0, rfl, Nat.le_refl _, by unfold maxLen; omega, (by intro _; exact ⟨rfl, rfl⟩), (by intro _ h; cases h), (by intro _ _ h; cases h)⟩
  · refine ⟨some ⟨g, 0, none⟩, cap, rfl, hc, hm, (by intro h; cases h), (by intro a h _; cases h; rfl), ?_⟩
    intro b off hbo i hi j hj
    simp only [Option.some.injEq, Addr.mk.injEq, and_true] at hbo
    obtain ⟨rfl, rfl⟩ := hbo
    rw [Nat.zero_add, h0.cellAt (i * 5 + j) (by omega), psCells_get l i j hi hj]
theorem StepsAt.keep {w w' : World} {v : Value} {l : List Sp} (h : StepsAt w v l) (hk : l ≠ [] → ∀ k, sliceBlock v = some k → k < w.heap.size → w'.heap[k]? = w.heap[k]?) : StepsAt w' v l := by
  obtain ⟨ao, cap, rfl, h1, h2, h3, h4, h5⟩ := h
  refine ⟨ao, cap, rfl, h1, h2, h3, h4, fun b off hb i hi j hj => ?_⟩
  have hc := h5 b off hb i hi j hj
  have hlt : b < w.heap.size := by
    have h0 := h5 b off hb i hi 0 (by omega)
    exact World.block_lt_of_cell? w ⟨b, off + i * 5 + 0, none⟩ (u := I l[i].node) h0
  rw [World.cell?_of_block (w := w) (a := ⟨b, off + i * 5 + j, none⟩) (hk (fun e => by rw [e] at hi; simp at hi) b (by rw [hb]; rfl) hlt)]
  exact hc
theorem StepsAt.below {w w' : World} {v : Value} {l : List Sp} (h : StepsAt w v l) (hb : Below w.heap.size w w') : StepsAt w' v l :=
  h.keep fun _ k _ hk => hb.block k hk
theorem StepsAt.open {w : World} {v : Value} {l : List Sp} (h : StepsAt w v l) : ∃ ao cap, v = .slice ao l.length cap ∧ l.length ≤ cap ∧ cap ≤ maxLen ∧ (0 < l.length → ∃ b off, ao = some ⟨b, off, none⟩) := by
  obtain ⟨ao, cap, e, h1, h2, h3, h4, _⟩ := h
  refine ⟨ao, cap, e, h1, h2, fun hp => ?_⟩
  cases ao with
  | none => rw [(h3 rfl).1] at hp; simp at hp
  | some a =>
    obtain ⟨b, off, sp⟩ := a
    have := h4 _ rfl (fun e => by rw [e] at hp; simp at hp)
    simp only at this
    subst this
    exact ⟨b, off, rfl⟩
/-- The cells of one entry. -/
structure SpAt (w : World) (b o : Nat) (x : Sp) : Prop where
  c0 : w.cell? ⟨b, o, none⟩ = some (I x.node)
  c1 : w.cell? ⟨b, o + 1, none⟩ = some (I x.target)
  c2 : w.cell? ⟨b, o + 2, none⟩ = some (I x.related)
  c3 : w.cell? ⟨b, o + 3, none⟩ = some (.bool x.cr)
  c4 : w.cell? ⟨b, o + 4, none⟩ = some (.bool x.cs)
theorem StepsAt.at {w : World} {b off n cap : Nat} {l : List Sp} (h : StepsAt w (.slice (some ⟨b, off, none⟩) n cap) l) (i : Nat) (hi : i < l.length) : SpAt w b (off + i * 5) l[i] := by
  obtain ⟨ao, cap', e, _, _, _, _, h5⟩ := h
  simp only [Value.slice.injEq] at e
  have q := h5 b off e.1.symm i hi
  exact ⟨q 0 (by omega), q 1 (by omega), q 2 (by omega), q 3 (by omega), q 4 (by omega)⟩

/-- An append of one entry, told sharply. -/
theorem wp_appP {o : Oper} {a : Act} {w : World} {K : Act → World → Prop} {Q : Exit → Act → World → Prop} (s y : Operand)
    (ho : o.op = .call { callee := .builtin .append, args := #[s, y], argTypes := #[65, 65] })
    (base : Nat) (v : Value) (l : List Sp) (hs : a.eval s = v) (hown : OwnP w base v l) (x : Sp) (ad : Addr) (c : Nat) (hx : a.eval y = .slice (some ad) 1 c) (hnews : ∀ j u, (spCells x)[j]? = some u → w.cell? (ad.add j) = some u) (hl : l.length ≤ 1000000) (hbase : base ≤ w.heap.size)
    (hK : ∀ va vc w', OwnP w' base (.slice va (l.length + 1) vc) (l ++ [x]) → w.grownBy w' v.ownBlock → (∀ k, (Value.slice va (l.length + 1) vc).ownBlock = some k → v.ownBlock = some k ∨ w.heap.size ≤ k) → K (a.put o.dst (.slice va (l.length + 1) vc)) w') :
    o.wp Try.prog a w K Q := by
  obtain ⟨i0, hi, hz0, hz1, hz2⟩ := info_parts infoStep
  have h1 : ∀ u ∈ spCells x, u.oneCell' = true := by
    have := psCells_one [x]
    simpa [psCells] using this
  refine wp_append_sharp s y 65 ho base 70 i0 zeroStep 5 32 Try.underlying65 hi hz0 hz1 hz2 rfl (by decide) v l.length (psCells l) hs hown ad 1 c (spCells x) hx rfl hnews h1 (by unfold maxLen; omega) (by omega) ?_
  intro v' w' h2 h3 h4
  obtain ⟨va, vc, rfl⟩ := row_shape h2
  have e : psCells l ++ spCells x = psCells (l ++ [x]) := by rw [psCells_append]; simp [psCells]
  rw [e] at h2
  refine hK va vc w' ?_ h3 h4
  have h5 : OwnP w' 0 (.slice va (l.length + 1) vc) (l ++ [x]) := by unfold OwnP; rw [List.length_append]; exact h2
  refine ownsRow_rebase h5 fun k hk => ?_
  rcases h4 k hk with e | e
  · exact (hown.lt k e).1
  · omega

/-! ## The closure of path.Make -/
structure AddSt (w : World) (hb : Nat) (L : Fo) (bf bo : Nat) (acc : List Sp) (v : Value) : Prop where
  fo : FoAt w hb (fun k => k < bf) L
  cf : w.cell? ⟨bf, 0, none⟩ = some (ptr hb)
  ho : w.heap[bo]? = some (.cells #[v] 65 (0, 0))
  lt : bf < bo
  own : OwnP w (bo + 1) v acc
theorem AddSt.lto {w : World} {hb bf bo : Nat} {L : Fo} {acc : List Sp} {v : Value} (h : AddSt w hb L bf bo acc v) : bo < w.heap.size := lt_of_block h.ho
theorem AddSt.below {w w' : World} {hb bf bo : Nat} {L : Fo} {acc : List Sp} {v : Value} (h : AddSt w hb L bf bo acc v) (k : Below w.heap.size w w') : AddSt w' hb L bf bo acc v :=
  ⟨h.fo.below k, cell_go k h.cf, (k.block _ h.lto).trans h.ho, h.lt, ownsRow_below h.own k⟩
structure AddTurn (w w' : World) (bo : Nat) (v v' : Value) : Prop where
  keeps : Keeps (fun q => q = bo ∨ v.ownBlock = some q) w w'
  row : ∀ q, v'.ownBlock = some q → v.ownBlock = some q ∨ w.heap.size ≤ q
theorem AddTurn.refl {w w' : World} {bo : Nat} {v : Value} (h : Below w.heap.size w w') : AddTurn w w' bo v v := ⟨Keeps.of_below h, fun _ h => Or.inl h⟩
theorem AddTurn.trans {w w1 w2 : World} {bo : Nat} {v v1 v2 : Value} (h : AddTurn w w1 bo v v1) (k : AddTurn w1 w2 bo v1 v2) : AddTurn w w2 bo v v2 := by
  refine ⟨⟨k.keeps.os.trans h.keeps.os, k.keeps.tape.trans h.keeps.tape, k.keeps.output.trans h.keeps.output, Nat.le_trans h.keeps.size k.keeps.size, fun q hq hn => ?_⟩, fun q hq => ?_⟩
  · have hs := h.keeps.size
    rw [k.keeps.block q (by omega) ?_, h.keeps.block q hq hn]
    rintro (e | e)
    · exact hn (Or.inl e)
    · rcases h.row q e with e2 | e2
      · exact hn (Or.inr e2)
      · omega
  · rcases k.row q hq with e | e
    · exact h.row q e
    · right; have := h.keeps.size; omega
theorem AddSt.push {w w1 : World} {hb bf bo : Nat} {L : Fo} {acc : List Sp} {v v' : Value} {x : Sp} (hg : w.grownBy w1 v.ownBlock) (h : AddSt w hb L bf bo acc v) (hown : OwnP w1 (bo + 1) v' (acc ++ [x])) (hr : ∀ q, v'.ownBlock = some q → v.ownBlock = some q ∨ w.heap.size ≤ q) :
    AddSt (w1.setCell ⟨bo, 0, none⟩ v') hb L bf bo (acc ++ [x]) v' ∧ AddTurn w (w1.setCell ⟨bo, 0, none⟩ v') bo v v' ∧ w1.heap[bo]? = some (.cells #[v] 65 (0, 0)) ∧ w1.cell? ⟨bf, 0, none⟩ = some (ptr hb) := by
  have hlt := h.lto
  have hlf := h.lt
  have hge : ∀ q, v.ownBlock = some q → bo + 1 ≤ q := fun q e => (h.own.lt q e).1
  have hkg : Keeps (fun q => v.ownBlock = some q) w w1 := Keeps.grown hg fun _ h => h
  have hks : Keeps (fun q => q = bo) w1 (w1.setCell ⟨bo, 0, none⟩ v') := Keeps.set (S := fun q => q = bo) (p := ⟨bo, 0, none⟩) rfl v'
  have hk : Keeps (fun q => q = bo ∨ v.ownBlock = some q) w (w1.setCell ⟨bo, 0, none⟩ v') := (hkg.mono fun _ _ h => Or.inr h).trans (hks.mono fun _ _ h => Or.inl h)
  have e1 : w1.heap[bo]? = some (.cells #[v] 65 (0, 0)) := by
    rw [hkg.block bo hlt (fun e => by have := hge _ e; omega)]; exact h.ho
  have ef : w1.cell? ⟨bf, 0, none⟩ = some (ptr hb) := by
    rw [World.cell?_of_block (w := w) (a := ⟨bf, 0, none⟩) (hkg.block bf (by omega) (fun e => by have := hge _ e; omega))]; exact h.cf
  refine ⟨⟨h.fo.keeps hk ?_, ?_, ?_, hlf, ?_⟩, ⟨hk, hr⟩, e1, ef⟩
  · rintro q hq (e | e)
    · omega
    · have := hge q e; omega
  · exact cell_set ef (by omega)
  · simp [World.setCell, Array.getElem?_modify, e1]
  · exact ownsRow_block hown fun q e => hks.block q (hown.lt q e).2 (fun e2 => by have := (hown.lt q e).1; omega)

section
variable {P : Program} {Q : Exit → Act → World → Prop} {md : Region.Mode} {S : World → Prop} {z : Nat}
/-- An operation that isn't wanted may be taken first. -/
theorem but_skip' {os : List Oper} {i : Nat} {oi : Oper} {f : Nat} {l l' : Array Bool} {a a' : Act} {w : World} (hi : os[i]? = some oi) (hz : zWaits md os.toArray z i = true)
    (hs : Region.noSelect os.toArray = true) (hf : Region.free md os.toArray l i = true) (hr : (Region.ready md os.toArray l).contains i = true)
    (hQ : ∀ c a w, Q (.panic c) (a.put oi.dst undef) w → Q (.panic c) a w) (hw : Region.wanted oi (yielded os.toArray a.tmps) = false) (hS : S w) (hl : l.setIfInBounds i true = l') (ha : a.put oi.dst undef = a')
    (h : anyBut P md os.toArray Q S z f l' a' w) : anyBut P md os.toArray Q S z (f + 1) l a w := by
  subst hl; subst ha
  exact but_take (by simpa using hi) hz hs hf hr hQ (Or.inr ⟨hw, rfl⟩) hS h
end
end Go.Proofs.Ytidekbamlnpglaa

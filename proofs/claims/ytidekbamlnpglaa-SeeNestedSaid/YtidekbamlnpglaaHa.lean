/-
  How a forest, and lists of numbers, lie in memory: what holds there, and what keeps it.
-/
import Derived.Test.YtidekbamlnpglaaProg
import Derived.WalkKit
import Derived.Lib.Hide
import Derived.BigQuiet
import Derived.Deep.QuietTactic
import Derived.Test.YtidekbamlnpglaaPb
namespace Go.Proofs.Ytidekbamlnpglaa
open Go.RowKit Tc

theorem infoInt : (Try.prog.info? 3).map (fun i => (i.zero, i.size, i.bytes)) = some (some (.int .i64 0), 1, 8) := by kernel_rfl
def zeroNode : Value := .agg #[.int .i64 0, .int .i64 0, .int .i64 0, .int .i64 0, .int .i64 0, .bool false, .string ByteArray.empty, .string ByteArray.empty, .slice none 0 0]
theorem infoNode : (Try.prog.info? 29).map (fun i => (i.zero, i.size, i.bytes)) = some (some zeroNode, 9, 104) := by kernel_rfl

abbrev I (n : Int) : Value := .int .i64 n
abbrev ints (l : List Int) : List Value := l.map I

/-- What a call leaves of memory: nothing that was there is turned but what S tells. -/
structure Keeps (S : Nat → Prop) (w w' : World) : Prop where
  os : w'.os = w.os
  tape : w'.tape = w.tape
  output : w'.output = w.output
  size : w.heap.size ≤ w'.heap.size
  block : ∀ k, k < w.heap.size → ¬ S k → w'.heap[k]? = w.heap[k]?

theorem Keeps.refl (S : Nat → Prop) (w : World) : Keeps S w w := ⟨rfl, rfl, rfl, Nat.le_refl _, fun _ _ _ => rfl⟩
theorem Keeps.trans {S : Nat → Prop} {a b c : World} (h : Keeps S a b) (k : Keeps S b c) : Keeps S a c :=
  ⟨k.os.trans h.os, k.tape.trans h.tape, k.output.trans h.output, Nat.le_trans h.size k.size, fun i hi hs => (k.block i (Nat.lt_of_lt_of_le hi h.size) hs).trans (h.block i hi hs)⟩
theorem Keeps.mono {S T : Nat → Prop} {a b : World} (h : Keeps S a b) (hst : ∀ k, k < a.heap.size → S k → T k) : Keeps T a b :=
  ⟨h.os, h.tape, h.output, h.size, fun i hi hs => h.block i hi (fun hS => hs (hst i hi hS))⟩
theorem Keeps.of_below {S : Nat → Prop} {a b : World} (h : Below a.heap.size a b) : Keeps S a b := ⟨h.os, h.tape, h.output, h.size, fun i hi _ => h.block i hi⟩
theorem Keeps.below {S : Nat → Prop} {B : Nat} {a b : World} (h : Keeps S a b) (hB : B ≤ a.heap.size) (hS : ∀ k, S k → B ≤ k) : Below B a b :=
  ⟨h.os, h.tape, h.output, h.size, fun k hk => h.block k (by omega) (fun hs => by have := hS k hs; omega)⟩
theorem Keeps.set {S : Nat → Prop} {a : World} {p : Addr} (hS : S p.block) (u : Value) : Keeps S a (a.setCell p u) :=
  ⟨rfl, rfl, rfl, by simp [World.setCell], fun k _ hs => Below.heap_setCell _ _ _ _ (fun e => hs (e ▸ hS))⟩
theorem Keeps.grown {S : Nat → Prop} {w w' : World} {row : Option Nat} (hg : w.grownBy w' row) (hr : ∀ k, row = some k → S k) : Keeps S w w' :=
  ⟨hg.os, hg.tape, hg.output, hg.size, fun k hk hs => hg.block k hk (fun e => hs (hr k e.symm))⟩

theorem bcell {W w1 : World} (hb : Below W.heap.size W w1) : (∀ b o, b < W.heap.size → w1.cell? ⟨b, o, none⟩ = W.cell? ⟨b, o, none⟩) ∧ (∀ b o, b < W.heap.size → w1.frozen? ⟨b, o, none⟩ = W.frozen? ⟨b, o, none⟩) :=
  ⟨fun b o h => hb.cell (p := ⟨b, o, none⟩) h, fun b o h => hb.frozen (p := ⟨b, o, none⟩) h⟩

theorem Below.step {w a b : World} (h : Below w.heap.size w a) (k : Below a.heap.size a b) : Below w.heap.size w b := h.trans (k.mono h.size)

/-! ## Owned rows -/
theorem ownsRow_block {w w' : World} {base : Nat} {e : TypeId} {size : Nat} {v : Value} {n : Nat} {xs : List Value} (h : w.ownsRow base e size v n xs)
    (hk : ∀ k, v.ownBlock = some k → w'.heap[k]? = w.heap[k]?) : w'.ownsRow base e size v n xs := by
  refine ⟨h.1, ?_⟩
  rcases h.2 with hn | ⟨g, cap, cur, rfl, hb, hg, rest⟩
  · exact Or.inl hn
  · exact Or.inr ⟨g, cap, cur, rfl, hb, by rw [hk g rfl]; exact hg, rest⟩
theorem ownsRow_below {w w' : World} {base : Nat} {e : TypeId} {size : Nat} {v : Value} {n : Nat} {xs : List Value} (h : w.ownsRow base e size v n xs)
    (hb : Below w.heap.size w w') : w'.ownsRow base e size v n xs :=
  ownsRow_block h fun k hk => hb.block k (h.lt k hk).2
theorem ownsRow_base {w : World} {base base' : Nat} {e : TypeId} {size : Nat} {v : Value} {n : Nat} {xs : List Value} (h : w.ownsRow base e size v n xs) (hb : base' ≤ base) : w.ownsRow base' e size v n xs := by
  refine ⟨h.1, ?_⟩
  rcases h.2 with hn | ⟨g, cap, cur, e, hb', rest⟩
  · exact Or.inl hn
  · exact Or.inr ⟨g, cap, cur, e, by omega, rest⟩
theorem ownsRow_rebase {w : World} {base base' : Nat} {e : TypeId} {size : Nat} {v : Value} {n : Nat} {xs : List Value} (h : w.ownsRow base e size v n xs) (hb : ∀ k, v.ownBlock = some k → base' ≤ k) : w.ownsRow base' e size v n xs := by
  refine ⟨h.1, ?_⟩
  rcases h.2 with hn | ⟨g, cap, cur, rfl, hb', rest⟩
  · exact Or.inl hn
  · exact Or.inr ⟨g, cap, cur, rfl, hb g rfl, rest⟩

/-! ## Lists of numbers -/
/-- A slice of numbers reads as a list. -/
def IntsAt (w : World) (v : Value) (l : List Int) : Prop :=
  ∃ ao cap, v = .slice ao l.length cap ∧ l.length ≤ cap ∧ cap ≤ maxLen ∧ (ao = none → l = [] ∧ cap = 0) ∧ (∀ a, ao = some a → l ≠ [] → a.spot = none) ∧
    ∀ b off, ao = some ⟨b, off, none⟩ → ∀ j, j < l.length → w.cell? ⟨b, off + j, none⟩ = some (I (l.getD j 0))
abbrev OwnI (w : World) (base : Nat) (v : Value) (l : List Int) : Prop := w.ownsRow base 3 1 v l.length (ints l)

theorem OwnI.ints {w : World} {base : Nat} {v : Value} {l : List Int} (h : OwnI w base v l) : IntsAt w v l := by
  have h0 := h
  obtain ⟨h1, h2⟩ := h
  rcases h2 with ⟨rfl, h2⟩ | ⟨g, cap, cur, rfl, hb, hg, hc, hm, hs, ht⟩
  · have : l = [] := List.length_eq_zero_iff.1 h2
    subst this
    exact ⟨none, 0, rfl, Nat.le_refl _, by unfold maxLen; omega, (by intro _; exact ⟨rfl, rfl⟩), (by intro _ h; cases h), (by intro _ _ h; cases h)⟩
  · refine ⟨some ⟨g, 0, none⟩, cap, rfl, hc, hm, (by intro h; cases h), (by intro a h _; cases h; rfl), ?_⟩
    intro b off hbo j hj
    simp only [Option.some.injEq, Addr.mk.injEq, and_true] at hbo
    obtain ⟨rfl, rfl⟩ := hbo
    rw [Nat.zero_add]
    rw [h0.cellAt j (by omega)]
    simp [List.getD, List.getElem?_map, List.getElem?_eq_getElem hj]

theorem OwnI.shape {w : World} {base : Nat} {v : Value} {l : List Int} (h : OwnI w base v l) : ∃ ao cap, v = .slice ao l.length cap := by
  obtain ⟨ao, cap, e, _⟩ := h.ints
  exact ⟨ao, cap, e⟩
/-- Where a slice's elements lie. -/
def sliceBlock : Value → Option Nat
  | .slice (some a) _ _ => some a.block
  | _ => none
theorem IntsAt.keep {w w' : World} {v : Value} {l : List Int} (h : IntsAt w v l) (hk : l ≠ [] → ∀ k, sliceBlock v = some k → k < w.heap.size → w'.heap[k]? = w.heap[k]?) : IntsAt w' v l := by
  obtain ⟨ao, cap, rfl, h1, h2, h3, h4, h5⟩ := h
  refine ⟨ao, cap, rfl, h1, h2, h3, h4, fun b off hb j hj => ?_⟩
  have hc := h5 b off hb j hj
  have hlt : b < w.heap.size := World.block_lt_of_cell? w ⟨b, off + j, none⟩ hc
  rw [World.cell?_of_block (w := w) (a := ⟨b, off + j, none⟩) (hk (fun e => by rw [e] at hj; simp at hj) b (by rw [hb]; rfl) hlt)]
  exact hc
theorem IntsAt.below {w w' : World} {v : Value} {l : List Int} (h : IntsAt w v l) (hb : Below w.heap.size w w') : IntsAt w' v l :=
  h.keep fun _ k _ hk => hb.block k hk

/-! ## Nodes and forests -/
def ndCells (x : Nd) (kv : Value) : List Value := [I x.kind, I x.parent, I x.host, I x.shadow, I x.mode, .bool x.slot, .string x.name, .string x.want, kv]
abbrev ndVal (x : Nd) (kv : Value) : Value := .agg #[I x.kind, I x.parent, I x.host, I x.shadow, I x.mode, .bool x.slot, .string x.name, .string x.want, kv]
def foCells : List Nd → List Value → List Value
  | x :: L, kv :: kvs => ndCells x kv ++ foCells L kvs
  | _, _ => []
theorem foCells_length : ∀ (L : List Nd) (kvs : List Value), kvs.length = L.length → (foCells L kvs).length = L.length * 9
  | [], [], _ => rfl
  | x :: L, kv :: kvs, h => by
    simp only [foCells, List.length_append, List.length_cons]
    rw [foCells_length L kvs (by simpa using h)]
    simp [ndCells]; omega
  | [], _ :: _, h => by simp at h
  | _ :: _, [], h => by simp at h
theorem foCells_get : ∀ (L : List Nd) (kvs : List Value) (i j : Nat) (hk : kvs.length = L.length) (hi : i < L.length) (_ : j < 9),
    (foCells L kvs)[i * 9 + j]? = (ndCells L[i] (kvs[i]'(by omega)))[j]?
  | x :: L, kv :: kvs, 0, j, _, _, hj => by
    simp only [foCells]
    rw [List.getElem?_append_left (by simp [ndCells]; omega)]
    simp
  | x :: L, kv :: kvs, i + 1, j, hk, hi, hj => by
    simp only [foCells]
    rw [List.getElem?_append_right (by simp [ndCells]; omega)]
    have := foCells_get L kvs i j (by simpa using hk) (by simpa using hi) hj
    simp only [List.getElem_cons_succ]
    rw [← this]
    congr 1
    simp [ndCells]; omega
  | [], _, i, j, _, hi, _ => by simp at hi
  | _ :: _, [], i, j, h, _, _ => by simp at h
theorem foCells_set : ∀ (L : List Nd) (kvs : List Value) (i j : Nat) (hk : kvs.length = L.length) (hi : i < L.length) (_ : j < 9) (u : Value) (x : Nd) (kv : Value),
    (ndCells L[i] (kvs[i]'(by omega))).set j u = ndCells x kv → (foCells L kvs).set (i * 9 + j) u = foCells (L.set i x) (kvs.set i kv)
  | y :: L, kv :: kvs, 0, j, _, _, hj, u, x, kv', h => by
    simp only [foCells, List.set_cons_zero, Nat.zero_mul, Nat.zero_add]
    rw [List.set_append_left _ _ (by simp [ndCells]; omega)]
    simp only [List.getElem_cons_zero] at h
    rw [h]
  | y :: L, kv :: kvs, i + 1, j, hk, hi, hj, u, x, kv', h => by
    simp only [foCells, List.set_cons_succ]
    rw [List.set_append_right _ _ (by simp [ndCells]; omega)]
    simp only [List.getElem_cons_succ] at h
    rw [show (i + 1) * 9 + j - (ndCells y kv).length = i * 9 + j from by simp [ndCells]; omega]
    rw [foCells_set L kvs i j (by simpa using hk) (by simpa using hi) hj u x kv' h]
  | [], _, i, j, _, hi, _, _, _, _, _ => by simp at hi
  | _ :: _, [], i, j, h, _, _, _, _, _, _ => by simp at h
theorem foCells_snoc : ∀ (L : List Nd) (kvs : List Value) (x : Nd) (kv : Value), kvs.length = L.length → foCells (L ++ [x]) (kvs ++ [kv]) = foCells L kvs ++ ndCells x kv
  | [], [], x, kv, _ => by simp [foCells]
  | y :: L, k :: kvs, x, kv, h => by simp only [List.cons_append, foCells]; rw [foCells_snoc L kvs x kv (by simpa using h), List.append_assoc]
  | [], _ :: _, _, _, h => by simp at h
  | _ :: _, [], _, _, h => by simp at h

/-- A forest: its head's block, all blocks that are its own, its nodes; v: the slice of nodes, kvs: each node's children's slice. -/
structure FoIn (w : World) (hb : Nat) (S : Nat → Prop) (L : Fo) (v : Value) (kvs : List Value) : Prop where
  head : w.heap[hb]? = some (.cells #[v] 91 (0, 0))
  headS : S hb
  row : w.ownsRow 0 29 9 v L.length (foCells L kvs)
  rowS : ∀ k, v.ownBlock = some k → S k
  klen : kvs.length = L.length
  kids : ∀ i (hi : i < L.length), OwnI w 0 (kvs[i]'(by omega)) L[i].kids
  kidsS : ∀ i (hi : i < L.length), ∀ k, (kvs[i]'(by omega)).ownBlock = some k → S k
  few : L.length ≤ 128
  kfew : ∀ i (hi : i < L.length), L[i].kids.length ≤ 128
def FoAt (w : World) (hb : Nat) (S : Nat → Prop) (L : Fo) : Prop := ∃ v kvs, FoIn w hb S L v kvs

theorem FoIn.keep {w w' : World} {hb : Nat} {S : Nat → Prop} {L : Fo} {v : Value} {kvs : List Value} (h : FoIn w hb S L v kvs) (hk : ∀ k, S k → k < w.heap.size → w'.heap[k]? = w.heap[k]?) : FoIn w' hb S L v kvs :=
  { head := by rw [hk hb h.headS (lt_of_block h.head)]; exact h.head
    headS := h.headS
    row := ownsRow_block h.row fun k e => hk k (h.rowS k e) (h.row.lt k e).2
    rowS := h.rowS
    klen := h.klen
    kids := fun i hi => ownsRow_block (h.kids i hi) fun k e => hk k (h.kidsS i hi k e) ((h.kids i hi).lt k e).2
    kidsS := h.kidsS
    few := h.few
    kfew := h.kfew }
theorem FoIn.below {w w' : World} {hb : Nat} {S : Nat → Prop} {L : Fo} {v : Value} {kvs : List Value} (h : FoIn w hb S L v kvs) (hw : Below w.heap.size w w') : FoIn w' hb S L v kvs :=
  h.keep fun k _ hk => hw.block k hk
theorem FoAt.keep {w w' : World} {hb : Nat} {S : Nat → Prop} {L : Fo} (h : FoAt w hb S L) (hk : ∀ k, S k → k < w.heap.size → w'.heap[k]? = w.heap[k]?) : FoAt w' hb S L := by
  obtain ⟨v, kvs, h⟩ := h; exact ⟨v, kvs, h.keep hk⟩
theorem FoAt.below {w w' : World} {hb : Nat} {S : Nat → Prop} {L : Fo} (h : FoAt w hb S L) (hw : Below w.heap.size w w') : FoAt w' hb S L := h.keep fun k _ hk => hw.block k hk
theorem FoAt.mono {w : World} {hb : Nat} {S T : Nat → Prop} {L : Fo} (h : FoAt w hb S L) (hst : ∀ k, k < w.heap.size → S k → T k) : FoAt w hb T L := by
  obtain ⟨v, kvs, h⟩ := h
  exact ⟨v, kvs, h.head, hst _ (lt_of_block h.head) h.headS, h.row, fun k e => hst k (h.row.lt k e).2 (h.rowS k e), h.klen, h.kids, fun i hi k e => hst k ((h.kids i hi).lt k e).2 (h.kidsS i hi k e), h.few, h.kfew⟩
theorem FoAt.few {w : World} {hb : Nat} {S : Nat → Prop} {L : Fo} (h : FoAt w hb S L) : L.length ≤ 128 := by obtain ⟨v, kvs, h⟩ := h; exact h.few

/-- What the walk reads: the head's cell; with nodes: where they lie; each node's cells. -/
theorem FoIn.cell {w : World} {hb : Nat} {S : Nat → Prop} {L : Fo} {v : Value} {kvs : List Value} (h : FoIn w hb S L v kvs) : w.cell? ⟨hb, 0, none⟩ = some v := cell_of_one h.head
theorem FoIn.shape {w : World} {hb : Nat} {S : Nat → Prop} {L : Fo} {v : Value} {kvs : List Value} (h : FoIn w hb S L v kvs) : ∃ ao cap, v = .slice ao L.length cap ∧ L.length ≤ cap ∧ cap ≤ maxLen ∧ (ao = none ∧ L = [] ∧ cap = 0 ∨ ∃ g, ao = some ⟨g, 0, none⟩ ∧ g < w.heap.size ∧ S g) := by
  have hlt := h.row.lt
  have hs := h.rowS
  rcases h.row.2 with ⟨e, h2⟩ | ⟨g, cap, cur, e, hb, hg, hc, hm, hs', ht⟩
  · have hL : L = [] := List.length_eq_zero_iff.1 h2
    exact ⟨none, 0, by rw [e, h2], by omega, by unfold maxLen; omega, Or.inl ⟨rfl, hL, rfl⟩⟩
  · subst e
    exact ⟨some ⟨g, 0, none⟩, cap, rfl, hc, hm, Or.inr ⟨g, rfl, (hlt g rfl).2, hs g rfl⟩⟩
theorem FoIn.node {w : World} {hb : Nat} {S : Nat → Prop} {L : Fo} {kvs : List Value} {g cap : Nat} (h : FoIn w hb S L (.slice (some ⟨g, 0, none⟩) L.length cap) kvs) (i : Nat) (hi : i < L.length) :
    ∀ j, j < 9 → w.cell? ⟨g, i * 9 + j, none⟩ = (ndCells L[i] (kvs[i]'(by have := h.klen; omega)))[j]? := by
  intro j hj
  rw [h.row.cellAt (i * 9 + j) (by omega), foCells_get L kvs i j h.klen hi hj]
theorem FoIn.free {w : World} {hb : Nat} {S : Nat → Prop} {L : Fo} {kvs : List Value} {g cap : Nat} (h : FoIn w hb S L (.slice (some ⟨g, 0, none⟩) L.length cap) kvs) (j : Nat) : w.frozen? ⟨g, j, none⟩ = false := h.row.frozenAt j

end Go.Proofs.Ytidekbamlnpglaa

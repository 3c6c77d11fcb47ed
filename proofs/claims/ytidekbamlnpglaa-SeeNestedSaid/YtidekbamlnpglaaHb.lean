/-
  Laws for the walks: append, make and copy on slices of numbers; stores into a forest's nodes.
-/
import Derived.Test.YtidekbamlnpglaaHa
import Derived.WalkSpells
import Derived.Laws.AppendOwnNone
import Derived.Laws.CopyOwn
namespace Go.Proofs.Ytidekbamlnpglaa
open Go.RowKit Tc

theorem IntsAt.one (w : World) (x : Int) : IntsAt (w.alloc (.cells #[I x] 3)) (.slice (some ⟨w.heap.size, 0, none⟩) 1 1) [x] := by
  refine ⟨some ⟨w.heap.size, 0, none⟩, 1, rfl, Nat.le_refl _, by unfold maxLen; omega, (by intro h; cases h), (by intro a h _; cases h; rfl), ?_⟩
  intro b off hb j hj
  simp only [Option.some.injEq, Addr.mk.injEq, and_true] at hb
  obtain ⟨rfl, rfl⟩ := hb
  obtain rfl : j = 0 := by simp at hj; omega
  rw [World.cell?_alloc_at _ _ _ _ rfl]; rfl
theorem IntsAt.one' {w : World} {x : Int} {g : Nat} (hg : g = w.heap.size) : IntsAt (w.alloc (.cells #[I x] 3)) (.slice (some ⟨g, 0, none⟩) 1 1) [x] := by
  subst hg; exact IntsAt.one w x
theorem IntsAt.nil (w : World) : IntsAt w (.slice none 0 0) [] :=
  ⟨none, 0, rfl, Nat.le_refl _, by unfold maxLen; omega, (by intro _; exact ⟨rfl, rfl⟩), (by intro _ h; cases h), (by intro _ _ h; cases h)⟩
theorem ints_one (l : List Int) : ∀ u ∈ ints l, u.oneCell' = true := ints_oneCell _ l

/-- 'out = append(out, ..)' over numbers, out the call's own. -/
theorem appI {w : World} {ops : Array Oper} {rest : List Oper} {o : Oper} {a : Act} {Q : Exit → Act → World → Prop} (hgd : o.guard = none) (s x : Operand)
    (ho : o.op = .call { callee := .builtin .append, args := #[s, x], argTypes := #[27, 27] })
    (base : Nat) (v : Value) (l : List Int) (hs : a.eval s = v) (hown : OwnI w base v l) (u : Value) (m : List Int) (hx : a.eval x = u) (hm : IntsAt w u m)
    (hlen : l.length + m.length ≤ 10000000) (hbase : base ≤ w.heap.size)
    (h : ∀ v' w', OwnI w' base v' (l ++ m) → w.grownBy w' v.ownBlock → wpList Try.prog ops Q rest (a.put o.dst v') w') : wpList Try.prog ops Q (o :: rest) a w := by
  obtain ⟨i0, hi, hz0, hz1, hz2⟩ := info_parts infoInt
  obtain ⟨ao, cap, rfl, h1, h2, h3, h4, h5⟩ := hm
  cases ao with
  | none =>
    obtain ⟨rfl, rfl⟩ := h3 rfl
    refine wpList_append_own_none hgd s x 27 ho base 3 i0 1 Try.underlying27 hi v l.length (ints l) hs hown hx ?_
    have := h v w (by simpa using hown) ⟨rfl, rfl, rfl, Nat.le_refl _, fun _ _ _ => rfl⟩
    exact this
  | some ad =>
    refine wpList_append_own w hgd s x 27 ho base 3 i0 (.int .i64 0) 1 8 Try.underlying27 hi hz0 hz1 hz2 rfl (by decide) v l.length (ints l) hs hown ad m.length cap (ints m) hx (by simp) ?_ (ints_one m) (by unfold maxLen; omega) (by omega) hbase ?_
    · intro j u hu
      have hj : j < m.length := by have := (List.getElem?_eq_some_iff.1 hu).1; simpa using this
      have hsp := h4 ad rfl (fun e => by rw [e] at hj; simp at hj)
      obtain ⟨b, off, sp⟩ := ad
      simp only at hsp
      subst hsp
      have := h5 b off rfl j hj
      have ha : (⟨b, off, none⟩ : Addr).add j = ⟨b, off + j, none⟩ := by simp [Addr.add]
      rw [ha, this, ← hu]
      simp [List.getD, hj]
    · intro v' w' hown' hg _
      exact h v' w' (by simpa [OwnI, ints] using hown') hg

/-- Behind such an append: what was there stays. -/
theorem grown_below {B : Nat} {w0 w w' : World} {base : Nat} {v : Value} {l : List Int} (hb : Below B w0 w) (hown : OwnI w base v l) (hg : w.grownBy w' v.ownBlock) (h1 : B ≤ w.heap.size) (h2 : B ≤ base) : Below B w0 w' :=
  hb.grown hg h1 fun k hk => by have := (hown.lt k hk).1; omega

/-- Behind such an append: a block that was laid since the slice was last known stays. -/
theorem app_cell {wr W w' : World} {base : Nat} {v : Value} {l : List Int} (ho : OwnI wr base v l) (hg : W.grownBy w' v.ownBlock) (b o : Nat) (h1 : wr.heap.size ≤ b) (h2 : b < W.heap.size) : w'.cell? ⟨b, o, none⟩ = W.cell? ⟨b, o, none⟩ :=
  World.cell?_of_block (w := W) (a := ⟨b, o, none⟩) (hg.block b h2 fun e => by have := (ho.lt b e.symm).2; omega)

theorem below_drewN {B : Nat} {a w : World} (h : Below B a w) (n : Nat) : Below B a (w.drewN n) := ⟨h.os, h.tape, h.output, h.size, h.block⟩

/-! ## Append, told sharply: where the row lies then -/
theorem run_append_sharp {P : Program} {w : World} {base : Nat} (t ty e : TypeId) (i : TypeInfo) (z : Value) (size bytes : Nat) (ht : P.underlying t = some (.slice e)) (hi : P.info? e = some i) (hz : i.zero = some z)
    (hsize : i.size = size) (hby : i.bytes = bytes) (hzs : z.cells.size = size) (hsz : 0 < size)
    (v : Value) (n : Nat) (xs : List Value) (hown : w.ownsRow base e size v n xs)
    (a : Addr) (m c : Nat) (news : List Value) (hl : news.length = m * size) (hnews : ∀ j u, news[j]? = some u → w.cell? (a.add j) = some u) (h1 : ∀ u ∈ news, u.oneCell' = true)
    (h63 : n + m ≤ maxLen) (hbytes : (n + m) * bytes ≤ 140737488355328) :
    ∃ v' w', (Builtin.append_ #[t, t] ty #[v, .slice (some a) m c]).run P w = .ok v' w' ∧ w'.ownsRow 0 e size v' (n + m) (xs ++ news) ∧ w.grownBy w' v.ownBlock ∧
      ∀ k, v'.ownBlock = some k → v.ownBlock = some k ∨ w.heap.size ≤ k := by
  have h0 := ownsRow_base hown (Nat.zero_le _)
  rcases hown.2 with ⟨rfl, rfl⟩ | ⟨g, cap, cur, rfl, _, hg, hnc, _, _, _⟩
  · have hx : xs = [] := List.eq_nil_of_length_eq_zero (by simpa using hown.1)
    subst hx
    obtain ⟨v', w', hr, r1, r2, _⟩ := run_append_own (P := P) w w.heap.size t ty e i z size bytes ht hi hz hsize hby hzs hsz (.slice none 0 0) 0 [] (World.ownsRow_nil w _ e size) a m c news hl hnews h1 h63 hbytes (Nat.le_refl _)
    exact ⟨v', w', hr, ownsRow_base r1 (Nat.zero_le _), r2, fun k hk => Or.inr (r1.lt k hk).1⟩
  · by_cases hroom : n + m ≤ cap
    · obtain ⟨w', hr, r1, r2⟩ := run_append_fits (P := P) w 0 t ty e i size ht hi hsize g n cap xs h0 a m c news hl hnews h1 hroom
      exact ⟨_, w', hr, r1, r2, fun k hk => Or.inl hk⟩
    · have holds : ∀ j u, xs[j]? = some u → w.cell? ((⟨g, 0, none⟩ : Addr).add j) = some u := hown.cells (g := g) rfl
      obtain ⟨v', w', hr, r1, r2⟩ := run_append_arg_grows (P := P) w t ty e i z size bytes ht hi hz hsize hby hzs hsz ⟨g, 0, none⟩ n cap xs hown.1 holds a m c news hl hnews (by omega) h63 hbytes
      exact ⟨v', w', hr, ownsRow_base r1 (Nat.zero_le _), ⟨r2.os, r2.tape, r2.output, r2.size, fun k hk _ => r2.block k hk (by simp)⟩, fun k hk => Or.inr (r1.lt k hk).1⟩

theorem wp_append_sharp {P : Program} {o : Oper} {a : Act} {w : World} {K : Act → World → Prop} {Q : Exit → Act → World → Prop}
    (s x : Operand) (t : TypeId) (ho : o.op = .call { callee := .builtin .append, args := #[s, x], argTypes := #[t, t] })
    (base : Nat) (e : TypeId) (i : TypeInfo) (z : Value) (size bytes : Nat) (ht : P.underlying t = some (.slice e)) (hi : P.info? e = some i) (hz : i.zero = some z)
    (hsize : i.size = size) (hby : i.bytes = bytes) (hzs : z.cells.size = size) (hsz : 0 < size)
    (v : Value) (n : Nat) (xs : List Value) (hs : a.eval s = v) (hown : w.ownsRow base e size v n xs)
    (ad : Addr) (m c : Nat) (news : List Value) (hx : a.eval x = .slice (some ad) m c) (hl : news.length = m * size) (hnews : ∀ j u, news[j]? = some u → w.cell? (ad.add j) = some u) (h1 : ∀ u ∈ news, u.oneCell' = true)
    (h63 : n + m ≤ maxLen) (hbytes : (n + m) * bytes ≤ 140737488355328)
    (h : ∀ v' w', w'.ownsRow 0 e size v' (n + m) (xs ++ news) → w.grownBy w' v.ownBlock → (∀ k, v'.ownBlock = some k → v.ownBlock = some k ∨ w.heap.size ≤ k) → K (a.put o.dst v') w') :
    o.wp P a w K Q := by
  obtain ⟨v', w', hr, h2, h3, h4⟩ := run_append_sharp (P := P) t o.type e i z size bytes ht hi hz hsize hby hzs hsz v n xs hown ad m c news hl hnews h1 h63 hbytes
  unfold Oper.wp execOp
  simp only [ho, resolve, invoke, builtin, Sem.run_bind, Sem.run_pure, Result.andThen_ok, List.map_toArray, List.map_cons, List.map_nil, hs, hx, hr]
  exact h v' w' h2 h3 h4

/-- A node more. -/
theorem FoIn.snoc {w w' : World} {hb : Nat} {S : Nat → Prop} {L : Fo} {v v' : Value} {kvs : List Value} (h : FoIn w hb S L v kvs) (x : Nd) (hx : x.kids = []) (hl : L.length < 128)
    (hown : w'.ownsRow 0 29 9 v' (L.length + 1) (foCells L kvs ++ ndCells x (.slice none 0 0))) (hg : w.grownBy w' v.ownBlock) (hv : ∀ k, v'.ownBlock = some k → v.ownBlock = some k ∨ w.heap.size ≤ k) :
    FoIn (w'.setCell ⟨hb, 0, none⟩ v') hb (fun k => S k ∨ w.heap.size ≤ k) (L ++ [x]) v' (kvs ++ [.slice none 0 0]) := by
  have hne : v.ownBlock ≠ some hb := fun e => by
    rcases h.row.2 with ⟨e', _⟩ | ⟨g, cap, cur, e', _, hgg, _⟩
    · rw [e'] at e; cases e
    · rw [e'] at e
      have e : some g = some hb := e
      cases e
      rw [h.head] at hgg; cases hgg
  have hhead : w'.heap[hb]? = some (.cells #[v] 91 (0, 0)) := by
    rw [hg.block hb (lt_of_block h.head) (fun e => hne e.symm)]; exact h.head
  have hlen : (L ++ [x]).length = L.length + 1 := by simp
  have key : ∀ (v0 : Value) (t : TypeId) (sz n : Nat) (xs : List Value), t ≠ 91 → w'.ownsRow 0 t sz v0 n xs → (w'.setCell ⟨hb, 0, none⟩ v').ownsRow 0 t sz v0 n xs := fun v0 t sz n xs ht ho => by
    refine ownsRow_setCell_other ho ?_ _
    intro e
    rcases ho.2 with ⟨e', _⟩ | ⟨g', cap', cur', e', _, hg', _⟩
    · rw [e'] at e; cases e
    · rw [e'] at e
      have e : some g' = some hb := e
      cases e
      rw [hhead] at hg'
      simp only [Option.some.injEq, Obj.cells.injEq] at hg'
      exact ht hg'.2.1.symm
  have hkidsw : ∀ i (hi : i < L.length), OwnI w' 0 (kvs[i]'(by have := h.klen; omega)) L[i].kids := fun i hi => by
    refine ownsRow_block (h.kids i hi) fun k hk => hg.block k ((h.kids i hi).lt k hk).2 ?_
    intro e
    rcases (h.kids i hi).2 with ⟨e', _⟩ | ⟨g', cap', cur', e', _, hg', _⟩
    · rw [e'] at hk; cases hk
    · rw [e'] at hk
      have hk : some g' = some k := hk
      cases hk
      rcases h.row.2 with ⟨e2, _⟩ | ⟨g2, cap2, cur2, e2, _, hg2, _⟩
      · rw [e2] at e; cases e
      · rw [e2] at e
        have e : some k = some g2 := e
        cases e
        rw [hg'] at hg2; cases hg2
  refine ⟨one_setCell hhead, Or.inl h.headS, ?_, ?_, by simp [h.klen], ?_, ?_, by omega, ?_⟩
  · rw [hlen, foCells_snoc L kvs x _ h.klen]
    exact key _ _ _ _ _ (by decide) hown
  · intro k hk
    rcases hv k hk with e | e
    · exact Or.inl (h.rowS k e)
    · exact Or.inr e
  · intro i hi
    by_cases e : i < L.length
    · rw [List.getElem_append_left (by rw [h.klen]; exact e), List.getElem_append_left e]
      exact key _ _ _ _ _ (by decide) (hkidsw i e)
    · rw [hlen] at hi
      obtain rfl : i = L.length := by omega
      rw [List.getElem_append_right (by rw [h.klen]; exact Nat.le_refl _), List.getElem_append_right (Nat.le_refl _)]
      simp only [Nat.sub_self, List.getElem_cons_zero, h.klen]
      rw [OwnI, hx]; exact World.ownsRow_nil _ _ _ _
  · intro i hi k hk
    by_cases e : i < L.length
    · rw [List.getElem_append_left (by rw [h.klen]; exact e)] at hk
      exact Or.inl (h.kidsS i e k hk)
    · rw [hlen] at hi
      obtain rfl : i = L.length := by omega
      rw [List.getElem_append_right (by rw [h.klen]; exact Nat.le_refl _)] at hk
      simp only [h.klen, Nat.sub_self, List.getElem_cons_zero] at hk
      cases hk
  · intro i hi
    by_cases e : i < L.length
    · rw [List.getElem_append_left e]; exact h.kfew i e
    · rw [hlen] at hi
      obtain rfl : i = L.length := by omega
      rw [List.getElem_append_right (Nat.le_refl _)]
      simp only [Nat.sub_self, List.getElem_cons_zero]
      rw [hx]; decide

/-! ## Stores into a node -/
theorem FoIn.set {w : World} {hb : Nat} {S : Nat → Prop} {L : Fo} {kvs : List Value} {g cap : Nat} (h : FoIn w hb S L (.slice (some ⟨g, 0, none⟩) L.length cap) kvs) (i j : Nat) (hi : i < L.length) (hj : j < 9) (u : Value) (x : Nd) (kv : Value)
    (he : (ndCells L[i] (kvs[i]'(by have := h.klen; omega))).set j u = ndCells x kv) (hkv : OwnI w 0 kv x.kids) (hkS : ∀ k, kv.ownBlock = some k → S k) (hkf : x.kids.length ≤ 128) :
    FoIn (w.setCell ⟨g, i * 9 + j, none⟩ u) hb S (L.set i x) (.slice (some ⟨g, 0, none⟩) L.length cap) (kvs.set i kv) := by
  have hgS : S g := h.rowS g rfl
  obtain ⟨cur, hcur⟩ : ∃ cur, w.heap[g]? = some (.cells cur 29 (0, 0)) := by
    rcases h.row.2 with ⟨e, _⟩ | ⟨g', cap', cur, e, _, hg, _⟩
    · cases e
    · simp only [Value.slice.injEq, Option.some.injEq, Addr.mk.injEq, and_true] at e
      rw [e.1]; exact ⟨cur, hg⟩
  have hne : hb ≠ g := fun e => by have := h.head; rw [e, hcur] at this; cases this
  have hlen : (L.set i x).length = L.length := by simp
  have hst := h.row.stored (i * 9 + j) u
  rw [foCells_set L kvs i j h.klen hi hj u x kv he] at hst
  have key : ∀ (v : Value) (l : List Int), OwnI w 0 v l → OwnI (w.setCell ⟨g, i * 9 + j, none⟩ u) 0 v l := fun v l ho => by
    refine ownsRow_setCell_other ho ?_ u
    intro e
    rcases ho.2 with ⟨e', _⟩ | ⟨g', cap', cur', e', _, hg', _⟩
    · rw [e'] at e; cases e
    · rw [e'] at e
      have e : some g' = some g := e
      cases e
      rw [hcur] at hg'; cases hg'
  refine ⟨?_, h.headS, ?_, fun k hk => h.rowS k hk, by simp [h.klen], ?_, ?_, by rw [hlen]; exact h.few, ?_⟩
  · rw [Below.heap_setCell _ _ _ _ hne]; exact h.head
  · rw [hlen]; exact hst.1
  · intro q hq
    rw [hlen] at hq
    by_cases e : i = q
    · subst e
      simp only [List.getElem_set_self]
      exact key _ _ hkv
    · rw [List.getElem_set_ne e, List.getElem_set_ne e]
      exact key _ _ (h.kids q hq)
  · intro q hq
    rw [hlen] at hq
    by_cases e : i = q
    · subst e; simp only [List.getElem_set_self]; exact hkS
    · rw [List.getElem_set_ne e]; exact h.kidsS q hq
  · intro q hq
    rw [hlen] at hq
    by_cases e : i = q
    · subst e; simp only [List.getElem_set_self]; exact hkf
    · rw [List.getElem_set_ne e]; exact h.kfew q hq

end Go.Proofs.Ytidekbamlnpglaa

/-
  Laws for the walks: make and copy over numbers; a node's children turned.
-/
import Derived.Test.YtidekbamlnpglaaWg
namespace Go.Proofs.Ytidekbamlnpglaa
open Go.RowKit Tc

theorem makeI {w : World} {ops : Array Oper} {rest : List Oper} {o : Oper} {a : Act} {Q : Exit → Act → World → Prop} (hgd : o.guard = none) (x y : Operand) (ho : o.op = Op.makeSlice 27 x y)
    (n : Nat) (hx : a.eval x = .int .i64 n) (hy : a.eval y = .int .i64 n) (hn : n ≤ 1000000)
    (h : ∀ w' cur, w'.heap[w.heap.size]? = some (.cells cur 3 (0, 0)) → cur.size = n → w.grownBy w' none → w.heap.size < w'.heap.size → wpList Try.prog ops Q rest (a.put o.dst (.slice (some ⟨w.heap.size, 0, none⟩) n n)) w') :
    wpList Try.prog ops Q (o :: rest) a w := by
  obtain ⟨i0, hi, hz0, hz1, hz2⟩ := info_parts infoInt
  refine wpList_make_full w hgd x y 27 ho w.heap.size 3 i0 (.int .i64 0) 1 Try.underlying27 hi hz0 hz1 .i64 .i64 n n n hx hy rfl rfl (by rw [hz2]; omega) (by unfold maxLen; omega) (Nat.le_refl _) ?_
  intro w' hown hg
  rcases hown.2 with ⟨e, _⟩ | ⟨g, cap, cur, e, hb, hgg, _, _, hs, _⟩
  · cases e
  · simp only [Value.slice.injEq, Option.some.injEq, Addr.mk.injEq, and_true, true_and] at e
    obtain ⟨e1, e2⟩ := e
    subst e1 e2
    exact h w' cur hgg (by rw [hs, Nat.mul_one]) hg (lt_of_block hgg)

theorem copyI {w : World} {ops : Array Oper} {rest : List Oper} {o : Oper} {a : Act} {Q : Exit → Act → World → Prop} (hgd : o.guard = none) (d s : Operand)
    (ho : o.op = .call { callee := .builtin .copy, args := #[d, s], argTypes := #[27, 27] }) (g n : Nat) (hd : a.eval d = .slice (some ⟨g, 0, none⟩) n n) (v : Value) (hs : a.eval s = v) (l : List Int)
    (hv : IntsAt w v l) (hl : l.length = n) (cur : Array Value) (hg : w.heap[g]? = some (.cells cur 3 (0, 0))) (hcur : cur.size = n)
    (h : ∀ w', w'.heap[g]? = some (.cells (ints l).toArray 3 (0, 0)) → Below g w w' → wpList Try.prog ops Q rest (a.put o.dst (goInt n)) w') :
    wpList Try.prog ops Q (o :: rest) a w := by
  obtain ⟨i0, hi, hz0, hz1, hz2⟩ := info_parts infoInt
  obtain ⟨ao, cap, rfl, h1, h2, h3, h4, h5⟩ := hv
  subst hl
  have hlen : (ints l).length = l.length := by simp
  refine wpList_copy_splice hgd d s 27 27 ho 3 Try.underlying27 (by rw [hi]; simp [hz1]) (some ⟨g, 0, none⟩) ao l.length l.length l.length cap hd hs g 0 cur.toList 3 (by simpa using hg) (ints l) (by simp) ?_ (by simp [hcur]) (ints_one l) g w (Below.refl _ _) (Nat.le_refl _) ?_
  · intro hp
    rw [hlen] at hp
    refine ⟨rfl, ?_⟩
    cases ao with
    | none => rw [(h3 rfl).1] at hp; simp at hp
    | some ad =>
      obtain ⟨b, off, sp⟩ := ad
      have hsp := h4 _ rfl (fun e => by rw [e] at hp; simp at hp)
      simp only at hsp
      subst hsp
      refine ⟨_, rfl, fun j u hu => ?_⟩
      have hj : j < l.length := by have := (List.getElem?_eq_some_iff.1 hu).1; simpa using this
      have := h5 b off rfl j hj
      have ha : (⟨b, off, none⟩ : Addr).add j = ⟨b, off + j, none⟩ := by simp [Addr.add]
      rw [ha, this, ← hu]
      simp [List.getD, hj]
  · intro w' hh hb
    have e : splice cur.toList 0 (ints l) = ints l := by
      unfold splice
      have : cur.toList.length = l.length := by simp [hcur]
      simp [← this]
    rw [hlen]
    exact h w' (by have := Go.RowKit.Hid.out hh; rwa [e] at this) hb

/-- A node's children's slice turned. -/
theorem FoIn.setKid {w w' : World} {hb : Nat} {S T : Nat → Prop} {L : Fo} {g cap : Nat} {kvs : List Value} (h : FoG w hb S L g cap kvs) {id : Int} (ht : there L id = true) {off : Nat} (ho : (id.toNat - 1) * 9 = off)
    (kv : Value) (ks : List Int) (hrow : w'.heap[g]? = (w.setCell ⟨g, off + 8, none⟩ kv).heap[g]?) (hoth : ∀ k, k < w.heap.size → k ≠ g → w'.heap[k]? = w.heap[k]?) (hkv : OwnI w' 0 kv ks) (hkT : ∀ k, kv.ownBlock = some k → T k)
    (hST : ∀ k, k < w.heap.size → S k → T k) (hks : ks.length ≤ 128) :
    FoG w' hb T (updN L id fun x => { x with kids := ks }) g cap (kvs.set (id.toNat - 1) kv) := by
  have ht' := there_iff.1 ht
  have hi : id.toNat - 1 < L.length := by omega
  have hkl := h.klen
  have hx : L[id.toNat - 1] = nd L id := by rw [nd_get ht (by omega)]; congr 1; omega
  obtain ⟨cur, hcur⟩ : ∃ cur, w.heap[g]? = some (.cells cur 29 (0, 0)) := by
    rcases h.row.2 with ⟨e, _⟩ | ⟨g', cap', cur, e, _, hg, _⟩
    · cases e
    · simp only [Value.slice.injEq, Option.some.injEq, Addr.mk.injEq, and_true] at e
      rw [e.1]; exact ⟨cur, hg⟩
  have hne : hb ≠ g := fun e => by have := h.head; rw [e, hcur] at this; cases this
  have hL : L.set (id.toNat - 1) { nd L id with kids := ks } = updN L id fun x => { x with kids := ks } := by
    refine fo_ext (by simp [updN]) fun q hq => ?_
    have hq' := there_iff.1 hq
    rw [List.length_set] at hq'
    rw [nd_updN ht, nd_get hq (by simp; omega)]
    by_cases e : q = id
    · subst e
      rw [if_pos rfl]
      have e1 : (q - 1).toNat = q.toNat - 1 := by omega
      simp [e1]
    · rw [if_neg e, List.getElem_set_ne (by omega), nd_get (there_iff.2 hq') (by omega)]
  have hset := foCells_set L kvs (id.toNat - 1) 8 hkl hi (by omega) kv { nd L id with kids := ks } kv (by rw [hx]; rfl)
  rw [ho, hL] at hset
  have hst := (h.row.stored (off + 8) kv).1
  rw [hset] at hst
  have hlen : (updN L id fun x => { x with kids := ks }).length = L.length := length_updN _ _ _
  refine ⟨?_, hST _ (lt_of_block h.head) h.headS, ?_, fun k hk => ?_, by rw [List.length_set, hlen]; exact hkl, ?_, ?_, by rw [hlen]; exact h.few, ?_⟩
  · show w'.heap[hb]? = some (.cells #[.slice (some ⟨g, 0, none⟩) (updN L id fun x => { x with kids := ks }).length cap] _ _)
    rw [hlen, hoth hb (lt_of_block h.head) hne]; exact h.head
  · show w'.ownsRow 0 _ 9 (.slice (some ⟨g, 0, none⟩) (updN L id fun x => { x with kids := ks }).length cap) _ _
    rw [hlen]
    refine ownsRow_block hst fun k hk => ?_
    have : g = k := by simpa [Value.ownBlock] using hk
    subst this
    exact hrow
  · have : g = k := by simpa [Value.ownBlock] using hk
    subst this
    exact hST _ (lt_of_block hcur) (h.rowS g rfl)
  · intro q hq
    rw [hlen] at hq
    have hnq : nd (updN L id fun x => { x with kids := ks }) ((q : Int) + 1) = (updN L id fun x => { x with kids := ks })[q]'(by rw [hlen]; exact hq) := nd_nat q (by rw [hlen]; exact hq)
    rw [← hnq, nd_updN ht]
    by_cases e : id.toNat - 1 = q
    · have e' : (q : Int) + 1 = id := by omega
      rw [if_pos e']
      simp only [e, List.getElem_set_self]
      exact hkv
    · have e' : (q : Int) + 1 ≠ id := by omega
      rw [if_neg e', List.getElem_set_ne e, nd_nat q hq]
      refine ownsRow_block (h.kids q hq) fun k hk => hoth k ((h.kids q hq).lt k hk).2 ?_
      intro e2
      rcases (h.kids q hq).2 with ⟨e', _⟩ | ⟨g', cap', cur', e', _, hg', _⟩
      · rw [e'] at hk; cases hk
      · rw [e'] at hk
        have hk : some g' = some k := hk
        cases hk
        rw [e2, hcur] at hg'; cases hg'
  · intro q hq k hk
    rw [hlen] at hq
    by_cases e : id.toNat - 1 = q
    · simp only [e, List.getElem_set_self] at hk
      exact hkT k hk
    · rw [List.getElem_set_ne e] at hk
      exact hST k ((h.kids q hq).lt k hk).2 (h.kidsS q hq k hk)
  · intro q hq
    rw [hlen] at hq
    have hnq : nd (updN L id fun x => { x with kids := ks }) ((q : Int) + 1) = (updN L id fun x => { x with kids := ks })[q]'(by rw [hlen]; exact hq) := nd_nat q (by rw [hlen]; exact hq)
    rw [← hnq, nd_updN ht]
    by_cases e : (q : Int) + 1 = id
    · rw [if_pos e]; exact hks
    · rw [if_neg e, nd_nat q hq]; exact h.kfew q hq

end Go.Proofs.Ytidekbamlnpglaa

/-
  The walk of kin.Order and of the closure in it.
-/
import Derived.Test.YtidekbamlnpglaaSa
import Derived.Test.YtidekbamlnpglaaPs
import Derived.Test.YtidekbamlnpglaaWk
import Derived.Laws.EntriesVeiled
namespace Go.Proofs.Ytidekbamlnpglaa
open Go.RowKit Tc

abbrev ptr (b : Nat) : Value := .pointer (some ⟨b, 0, none⟩)
abbrev fnO (b : Nat) : Value := .func (.func 136) #[] #[ptr b, ptr (b + 1), ptr (b + 2)]

/-- Where the closure stands. -/
structure OrdSt (w : World) (hb : Nat) (L : Fo) (b : Nat) (acc : List Int) (v : Value) : Prop where
  fo : FoAt w hb (fun k => k < b) L
  c0 : w.cell? ⟨b, 0, none⟩ = some (ptr hb)
  h1 : w.heap[b + 1]? = some (.cells #[v] 27 (0, 0))
  c2 : w.cell? ⟨b + 2, 0, none⟩ = some (fnO b)
  own : OwnI w (b + 3) v acc

theorem OrdSt.lt2 {w : World} {hb b : Nat} {L : Fo} {acc : List Int} {v : Value} (h : OrdSt w hb L b acc v) : b + 2 < w.heap.size := World.block_lt_of_cell? w ⟨b + 2, 0, none⟩ h.c2
theorem OrdSt.below {w w' : World} {hb b : Nat} {L : Fo} {acc : List Int} {v : Value} (h : OrdSt w hb L b acc v) (k : Below w.heap.size w w') : OrdSt w' hb L b acc v :=
  ⟨h.fo.below k, (k.cell (p := ⟨b, 0, none⟩) (by have := h.lt2; simp; omega)).trans h.c0, (k.block _ (by have := h.lt2; omega)).trans h.h1, (k.cell (p := ⟨b + 2, 0, none⟩) (by have := h.lt2; simp; omega)).trans h.c2, ownI_below h.own k⟩

/-- What a call of the closure leaves. -/
structure OrdTurn (w w' : World) (b : Nat) (v v' : Value) : Prop where
  keeps : Keeps (fun q => q = b + 1 ∨ v.ownBlock = some q) w w'
  row : ∀ q, v'.ownBlock = some q → v.ownBlock = some q ∨ w.heap.size ≤ q
theorem OrdTurn.refl {w w' : World} {b : Nat} {v : Value} (h : Below w.heap.size w w') : OrdTurn w w' b v v := ⟨Keeps.of_below h, fun _ h => Or.inl h⟩
theorem OrdTurn.trans {w w1 w2 : World} {b : Nat} {v v1 v2 : Value} (h : OrdTurn w w1 b v v1) (k : OrdTurn w1 w2 b v1 v2) : OrdTurn w w2 b v v2 := by
  refine ⟨⟨k.keeps.os.trans h.keeps.os, k.keeps.tape.trans h.keeps.tape, k.keeps.output.trans h.keeps.output, Nat.le_trans h.keeps.size k.keeps.size, fun q hq hn => ?_⟩, fun q hq => ?_⟩
  · have hs := h.keeps.size
    rw [k.keeps.block q (by omega) ?_, h.keeps.block q hq hn]
    rintro (e | e)
    · exact hn (Or.inl e)
    · rcases h.row q e with e2 | e2
      · exact hn (Or.inr e2)
      · omega
  · rcases k.row q hq with e | e
    · exact h.row q e
    · right; have := h.keeps.size; omega

theorem FoAt.keeps {w w' : World} {hb : Nat} {S T : Nat → Prop} {L : Fo} (h : FoAt w hb S L) (k : Keeps T w w') (hST : ∀ q, S q → ¬ T q) : FoAt w' hb S L := by
  obtain ⟨v, kvs, h⟩ := h
  exact ⟨v, kvs, h.keep fun q hq hlt => k.block q hlt (hST q hq)⟩

/-- The append of one number, stored where it came from. -/
theorem OrdSt.push {w w1 : World} {hb b : Nat} {L : Fo} {acc : List Int} {v v' : Value} {y : Int} (hg : w.grownBy w1 v.ownBlock) (h : OrdSt w hb L b acc v) (hown : OwnI w1 (b + 3) v' (acc ++ [y])) (hr : ∀ q, v'.ownBlock = some q → v.ownBlock = some q ∨ w.heap.size ≤ q) :
    OrdSt (w1.setCell ⟨b + 1, 0, none⟩ v') hb L b (acc ++ [y]) v' ∧ OrdTurn w (w1.setCell ⟨b + 1, 0, none⟩ v') b v v' ∧ w1.heap[b + 1]? = some (.cells #[v] 27 (0, 0)) := by
  have hlt := h.lt2
  have hge : ∀ q, v.ownBlock = some q → b + 3 ≤ q := fun q e => (h.own.lt q e).1
  have hkg : Keeps (fun q => v.ownBlock = some q) w w1 := Keeps.grown hg fun _ h => h
  have hks : Keeps (fun q => q = b + 1) w1 (w1.setCell ⟨b + 1, 0, none⟩ v') := Keeps.set (S := fun q => q = b + 1) (p := ⟨b + 1, 0, none⟩) rfl v'
  have hk : Keeps (fun q => q = b + 1 ∨ v.ownBlock = some q) w (w1.setCell ⟨b + 1, 0, none⟩ v') := (hkg.mono fun _ _ h => Or.inr h).trans (hks.mono fun _ _ h => Or.inl h)
  have hblk : ∀ q, q < b + 1 ∨ q = b + 2 → (w1.setCell ⟨b + 1, 0, none⟩ v').heap[q]? = w.heap[q]? := fun q hq => by
    refine hk.block q (by omega) ?_
    rintro (e | e)
    · omega
    · have := hge q e; omega
  have e1 : w1.heap[b + 1]? = some (.cells #[v] 27 (0, 0)) := by
    rw [hkg.block (b + 1) (by omega) (fun e => by have := hge _ e; omega)]; exact h.h1
  refine ⟨⟨h.fo.keeps hk ?_, ?_, ?_, ?_, ?_⟩, ⟨hk, hr⟩, e1⟩
  · rintro q hq (e | e)
    · omega
    · have := hge q e; omega
  · rw [World.cell?_of_block (w := w) (a := ⟨b, 0, none⟩) (hblk b (by omega))]; exact h.c0
  · simp [World.setCell, Array.getElem?_modify, e1]
  · rw [World.cell?_of_block (w := w) (a := ⟨b + 2, 0, none⟩) (hblk (b + 2) (by omega))]; exact h.c2
  · exact ownsRow_block hown fun q e => hks.block q (hown.lt q e).2 (fun e2 => by have := (hown.lt q e).1; omega)

/-- An append of one number to the call's own row, told sharply. -/
theorem appS {w : World} {ops : Array Oper} {rest : List Oper} {o : Oper} {a : Act} {Q : Exit → Act → World → Prop} {y : Int} {g : Nat} (hgd : o.guard = none) (s x : Operand)
    (ho : o.op = .call { callee := .builtin .append, args := #[s, x], argTypes := #[27, 27] })
    (base : Nat) (v : Value) (l : List Int) (hs : a.eval s = v) (hown : OwnI (w.alloc (.cells #[I y] 3)) base v l) (hx : a.eval x = .slice (some ⟨g, 0, none⟩) 1 1) (hg : g = w.heap.size)
    (hlen : l.length ≤ 1000000) (hbase : base ≤ w.heap.size)
    (h : ∀ va vc w', OwnI w' base (.slice va (l.length + 1) vc) (l ++ [y]) → (w.alloc (.cells #[I y] 3)).grownBy w' v.ownBlock → (∀ k, (Value.slice va (l.length + 1) vc).ownBlock = some k → v.ownBlock = some k ∨ w.heap.size + 1 ≤ k) →
      wpList Try.prog ops Q rest (a.put o.dst (.slice va (l.length + 1) vc)) w') : wpList Try.prog ops Q (o :: rest) a (w.alloc (.cells #[I y] 3)) := by
  subst hg
  obtain ⟨i0, hi, hz0, hz1, hz2⟩ := info_parts infoInt
  refine wpList_plain hgd fun K hK => ?_
  refine wp_append_sharp s x 27 ho base 3 i0 (.int .i64 0) 1 8 Try.underlying27 hi hz0 hz1 hz2 rfl (by decide) v l.length (ints l) hs hown ⟨w.heap.size, 0, none⟩ 1 1 [I y] hx rfl ?_ ?_ (by unfold maxLen; omega) (by omega) ?_
  · intro j u hu
    cases j with
    | zero =>
      simp only [List.getElem?_cons_zero, Option.some.injEq] at hu
      subst hu
      simp only [Addr.add, if_true]
      exact World.cell?_alloc_at _ _ _ _ rfl
    | succ j => simp at hu
  · intro u hu
    rw [List.mem_singleton] at hu
    subst hu; rfl
  · intro v' w' h2 h3 h4
    obtain ⟨va, vc, rfl⟩ := row_shape h2
    have e : ints l ++ [I y] = ints (l ++ [y]) := by simp [ints]
    rw [e] at h2
    have h5 : OwnI w' 0 (.slice va (l.length + 1) vc) (l ++ [y]) := by
      unfold OwnI; rw [List.length_append]; exact h2
    have h6 : ∀ k, (Value.slice va (l.length + 1) vc).ownBlock = some k → v.ownBlock = some k ∨ w.heap.size + 1 ≤ k := fun k hk => by
      rcases h4 k hk with e | e
      · exact Or.inl e
      · right; simpa using e
    refine hK _ _ (h va vc w' (ownsRow_rebase h5 fun k hk => ?_) h3 h6)
    rcases h6 k hk with e | e
    · exact (hown.lt k e).1
    · omega

theorem alloc_top (w : World) (cs : Array Value) (t : TypeId) : (w.alloc (.cells cs t)).heap[w.heap.size]? = some (.cells cs t (0, 0)) := by unfold World.alloc; exact Array.getElem?_push_size
theorem flat_take {f : Int → List Int} {l : List Int} {q : Nat} (hq : q < l.length) : (l.take (q + 1)).flatMap f = (l.take q).flatMap f ++ f (l.getD q 0) := by
  rw [take_succ_getD hq, List.flatMap_append]; simp
theorem flat_le {f : Int → List Int} (l : List Int) (q : Nat) : ((l.take q).flatMap f).length ≤ (l.flatMap f).length := by
  conv => rhs; rw [← List.take_append_drop q l, List.flatMap_append, List.length_append]
  omega
theorem enO : EntersF 136 := Go.Proofs.enters_of Try.func136 (by kernel_rfl) rfl

set_option maxRecDepth 100000 in
set_option maxHeartbeats 3200000 in
theorem order1_calls {hb : Nat} {L : Fo} (hW : WF L) (b : Nat) : ∀ (n : Nat) (id : Int), dm L id ≤ n → ∀ (w : World) (v : Value) (acc : List Int), OrdSt w hb L b acc v → acc.length + (order L id).length ≤ 1000 →
    Calls Try.prog 136 #[I id, ptr b, ptr (b + 1), ptr (b + 2)] w fun e w' => ∃ v', e = .returned (.tuple #[]) ∧ OrdSt w' hb L b (acc ++ order L id) v' ∧ OrdTurn w w' b v v'
  | 0, id, hn, _, _, _, _, _ => by have := dm_pos hW id; omega
  | n + 1, id, hn, w, v, acc, hst, hlen => by
    have ih := order1_calls (hb := hb) hW b n
    obtain ⟨va0, vc0, rfl⟩ := hst.own.shape
    have IH := Lib.hid ih
    have H := Lib.hid hst
    have HW := Lib.hid hW
    have c0 := hst.c0
    have hlt2 := hst.lt2
    clear ih
    cases ht : there L id
    · have e : order L id = [] := order_not ht
      rw [e, List.append_nil]
      have HT := Lib.hid ht
      clear e hst ht hlen hn hW
      go_enter Try.func136, Try.ntmps136
      go_wp2_with fail
      refine (node_calls H.out.fo id).mono ?_
      rw [HT.out]
      rintro e w1 ⟨ka, kc, rfl, hk, hb1⟩
      have HB1 := Lib.hid hb1
      clear hb1
      go_wp2
      first | go_end0 | ((try simp only [Exit.inBlock, Exit.then]); refine bodyPost_ret (results_none rfl _ _ _) rfl ?_)
      exact ⟨_, rfl, H.out.below (Below.step HB1.out (below1 _ _)), OrdTurn.refl (Below.step HB1.out (below1 _ _))⟩
    · have e : order L id = id :: (nd L id).kids.flatMap (order L) := order_cons hW ht
      rw [e] at hlen ⊢
      obtain ⟨ks, hks⟩ : ∃ ks, (nd L id).kids = ks := ⟨_, rfl⟩
      obtain ⟨nk, hnk⟩ : ∃ nk, ks.length = nk := ⟨_, rfl⟩
      have hkd : ∀ y, y ∈ ks → dm L y ≤ n := fun y hy => by
        have := dm_kid hW (hks ▸ hy); omega
      have hk128 := hW.kids_len id
      have hl128 := hW.len
      rw [hks] at hlen ⊢
      rw [hks, hnk] at hk128
      have hacc : acc.length ≤ 1000 := by omega
      have HKS := Lib.hid hks
      have HNK := Lib.hid hnk
      have HKD := Lib.hid hkd
      have HLEN := Lib.hid hlen
      have HT := Lib.hid ht
      have hge : ∀ q, (Value.slice va0 acc.length vc0).ownBlock = some q → b + 3 ≤ q ∧ q < w.heap.size := hst.own.lt
      have HGE := Lib.hid hge
      clear e hst ht hlen hn hW hks hnk hkd hge
      go_enter Try.func136, Try.ntmps136
      go_wp2_with fail
      refine (node_calls H.out.fo id).mono ?_
      rw [HT.out, HKS.out, HNK.out]
      rintro e w1 ⟨ka, kc, rfl, hk, hb1⟩
      have HB1 := Lib.hid hb1
      have HK := Lib.hid hk
      have hwlt : w.heap.size ≤ w1.heap.size := hb1.size
      have c1 : w1.cell? ⟨b + 1, 0, none⟩ = some (.slice va0 acc.length vc0) := (hb1.cell (p := ⟨b + 1, 0, none⟩) (by simp; omega)).trans (cell_of_one H.out.h1)
      have hlt1 : b + 1 < w1.heap.size := by omega
      clear hb1 hk
      have hkb : ∀ q, sliceBlock (.slice ka nk kc) = some q → w.heap.size ≤ q ∧ q < w1.heap.size := fun q hq => by
        have e : (Value.slice ka nk kc).ownBlock = some q := by
          cases ka with
          | none => cases hq
          | some a => exact hq
        exact HK.out.lt q e
      have HKB := Lib.hid hkb
      have hint := HK.out.ints
      obtain ⟨ao, cap, ekv, hc1, hc2, hsl⟩ := hint.open
      rw [HNK.out] at ekv hc1 hsl
      simp only [Value.slice.injEq] at ekv
      obtain ⟨rfl, _, rfl⟩ := ekv
      unfold maxLen at hc2
      have HSL := Lib.hid hsl
      have hne1 : (Value.slice va0 acc.length vc0).ownBlock ≠ some (b + 1) := fun e => by have := HGE.out _ e; omega
      have hne2 : b + 1 ≠ w1.heap.size := by omega
      have HN1 := Lib.hid hne1
      clear hkb hint hsl hne1
      go_wp2_with (
        at_builtin
        go_must (refine appS rfl (.tmp 17) (.tmp 19) rfl (b + 3) (.slice va0 acc.length vc0) acc rfl (ownI_below H.out.own (Below.step (Below.step HB1.out (below1 _ _)) (below1 _ _))) rfl (by simp) (by omega) (by simp; omega) ?_)
        intro va vc w2 hown hg hr
        have hp := OrdSt.push hg (H.out.below (Below.step (Below.step HB1.out (below1 _ _)) (below1 _ _))) hown (fun q e => (hr q e).imp (fun h => h) (fun h => by simpa using h))
        have hturn := (OrdTurn.refl (v := .slice va0 acc.length vc0) (b := b) (Below.step (below1 w1 _) (below1 _ _))).trans hp.2.1
        have c1' := cell_of_one hp.2.2
        have f1' := free_of_one hp.2.2
        have k8 : w2.cell? ⟨w1.heap.size, 8, none⟩ = some (.slice ka nk kc) := by
          rw [World.cell?_of_block (a := ⟨w1.heap.size, 8, none⟩) (hg.block w1.heap.size (by simp; omega) (fun e => by have := HGE.out _ e.symm; omega))]
          simp
        have hki : IntsAt (w2.setCell ⟨b + 1, 0, none⟩ (.slice va (acc.length + 1) vc)) (.slice ka nk kc) ks := by
          refine HK.out.ints.keep fun _ q hq hlt => ?_
          have hq2 := HKB.out q hq
          rw [Below.heap_setCell _ _ _ _ (show q ≠ b + 1 by omega), hg.block q (by simp; omega) (fun e => by have := HGE.out _ e.symm; omega)]
          exact (Below.step (below1 w1 _) (below1 _ _)).block q hq2.2
        have HS0 := Lib.hid hp.1
        have HTU := Lib.hid hturn
        have HKI := Lib.hid hki
        clear hp hown hg hr hturn hki)
      go_loopw [24] (fun c wr => ∃ (q : Nat) (v1 : Value), c = I q ∧ q ≤ nk ∧ OrdSt wr hb L b (acc ++ (id :: (ks.take q).flatMap (order L))) v1 ∧ OrdTurn w1 wr b (.slice va0 acc.length vc0) v1 ∧ IntsAt wr (.slice ka nk kc) ks) (fun c _ => nk - (intOf c).toNat)
      case atStart => exact ⟨0, _, rfl, by omega, by simpa using HS0.out, HTU.out, HKI.out⟩
      case round =>
        obtain ⟨q, v1, rfl, hq, hst1, htu1, hki1⟩ := hrel
        have HS := Lib.hid hst1
        have HT1 := Lib.hid htu1
        have HKI1 := Lib.hid hki1
        have d2 := hst1.c2
        clear hst1 htu1 hki1 HS0 HTU HKI
        by_cases hlt : q < nk
        · obtain ⟨kb, off, e⟩ := HSL.out (by omega)
          subst e
          have hcell := HKI1.out.cellAt q (by rw [HNK.out]; omega)
          obtain ⟨y, hy⟩ : ∃ y, ks.getD q 0 = y := ⟨_, rfl⟩
          rw [hy] at hcell
          have hym : y ∈ ks := by rw [← hy]; exact getD_mem (by rw [HNK.out]; exact hlt)
          have hft := flat_take (f := order L) (l := ks) (q := q) (by rw [HNK.out]; exact hlt)
          rw [hy] at hft
          have hle : (acc ++ (id :: (ks.take q).flatMap (order L))).length + (order L y).length ≤ 1000 := by
            have h1 := flat_le (f := order L) ks (q + 1)
            rw [hft] at h1
            have h2 := HLEN.out
            simp only [List.length_append, List.length_cons] at h1 h2 ⊢
            omega
          have hcall := IH.out y (HKD.out y hym) wr v1 _ HS.out hle
          have HFT := Lib.hid hft
          clear hy hym hft hle
          go_wp2_with fail
          refine hcall.mono ?_
          rintro e w5 ⟨v2, rfl, hst2, htu2⟩
          go_wp2
          go_roundw
          case rel =>
            refine ⟨q + 1, v2, by go_num, by omega, ?_, HT1.out.trans htu2, ?_⟩
            · rw [HFT.out]
              simpa using hst2
            · refine HKI1.out.keep fun _ g hgb hlt2 => htu2.keeps.block g hlt2 ?_
              have h3 := HKB.out g hgb
              rintro (e | e)
              · omega
              · rcases HT1.out.row g e with e2 | e2
                · have := HGE.out g e2; omega
                · omega
          case measure => simp [intOf]; omega
        · have e : q = nk := by omega
          subst e
          have hfull : ks.take q = ks := List.take_of_length_le (by rw [HNK.out]; exact Nat.le_refl _)
          have HFU := Lib.hid hfull
          clear hfull
          go_wp2
          first | go_end0 | ((try simp only [Exit.inBlock, Exit.then]); refine bodyPost_ret (results_none rfl _ _ _) rfl ?_)
          refine ⟨v1, rfl, ?_, (OrdTurn.refl HB1.out).trans HT1.out⟩
          rw [← HFU.out]; exact HS.out

set_option maxRecDepth 100000 in
set_option maxHeartbeats 1600000 in
theorem order_calls {w : World} {hb : Nat} {S : Nat → Prop} {L : Fo} (h : FoAt w hb S L) (hW : WF L) (id : Int) :
    Calls Try.prog 95 #[ptr hb, I id] w fun e w' => ∃ v, e = .returned v ∧ OwnI w' w.heap.size v (order L id) ∧ Below w.heap.size w w' := by
  have hmf : ∀ (fn : Fn) (first cap : Array Value) (w : World), (Instr.makeFunc fn first cap).run Try.prog w = .ok (.func fn first cap) w := fun _ _ _ _ => rfl
  have hl := order_length hW id
  have hl2 := hW.len
  have H := Lib.hid (h.narrow.mono (T := fun k => k < w.heap.size) fun _ _ h => h.2)
  have hcall := order1_calls (hb := hb) hW w.heap.size (dm L id) id (Nat.le_refl _)
  have HC := Lib.hid hcall
  clear h hW hcall
  go_enter Try.func95, Try.ntmps95
  go_wp2_with fail
  refine (HC.out _ (.slice none 0 0) [] ⟨?_, ?_, ?_, ?_, World.ownsRow_nil _ _ _ _⟩ (by simp; omega)).mono ?_
  · exact H.out.below (Below.step (Below.step (below1 _ _) (below1 _ _)) (below1 _ _))
  · exact ((Below.step (below1 _ _) (below1 _ _)).cell (p := ⟨w.heap.size, 0, none⟩) (by simp)).trans (World.cell?_alloc_at _ _ _ _ rfl)
  · rw [(below1 _ _).block (w.heap.size + 1) (by simp)]
    have q := alloc_top (w.alloc (.cells #[ptr hb] 25)) #[Value.slice none 0 0] 27
    rw [show (w.alloc (.cells #[ptr hb] 25)).heap.size = w.heap.size + 1 by simp] at q
    exact q
  · refine (World.cell?_alloc_at _ _ _ _ ?_).trans ?_
    · simp
    · rfl
  rintro e w1 ⟨v, rfl, hst, htu⟩
  have hs := htu.keeps.size
  have c1 := cell_of_one hst.h1
  rw [List.nil_append] at hst
  obtain ⟨va, vc, e⟩ := hst.own.shape
  subst e
  have HST := Lib.hid hst
  have HTU := Lib.hid htu
  clear hst htu
  go_wp2
  go_ret
  refine ⟨_, rfl, ownsRow_base HST.out.own (by omega), ?_⟩
  have k := HTU.out.keeps
  simp at hs
  refine ⟨k.os.trans rfl, k.tape.trans rfl, k.output.trans rfl, by omega, fun q hq => ?_⟩
  rw [k.block q (by simp; omega) (by rintro (e | e) <;> first | omega | cases e)]
  exact (Below.step (Below.step (below1 _ _) (below1 _ _)) (below1 _ _)).block q hq

end Go.Proofs.Ytidekbamlnpglaa

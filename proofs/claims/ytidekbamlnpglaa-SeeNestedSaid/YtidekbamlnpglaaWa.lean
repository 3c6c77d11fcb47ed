/-
  The walks of the arena's readers: (*Forest).at, Len, Node, slices.Clone over []int.
-/
import Derived.Test.YtidekbamlnpglaaHb
namespace Go.Proofs.Ytidekbamlnpglaa
open Go.RowKit Tc

set_option maxHeartbeats 400000 in
theorem at_in {w : World} {hb : Nat} {S : Nat → Prop} {L : Fo} {kvs : List Value} {g cap : Nat} (h : FoIn w hb S L (.slice (some ⟨g, 0, none⟩) L.length cap) kvs) (id : Int) (h1 : 1 ≤ id) (h2 : id ≤ (L.length : Int)) (off : Nat) (hoff : (id.toNat - 1) * 9 = off) :
    Calls Try.prog 83 #[.pointer (some ⟨hb, 0, none⟩), I id] w fun e w' => e = .returned (.pointer (some ⟨g, off, none⟩)) ∧ w = w' := by
  subst hoff
  have hc := h.cell
  have hf := h.few
  have hcap : L.length ≤ cap ∧ cap ≤ 9223372036854775807 := by
    obtain ⟨_, _, e, a, b, _⟩ := h.shape
    unfold maxLen at b
    simp only [Value.slice.injEq] at e
    omega
  obtain ⟨hcap1, hcap2⟩ := hcap
  obtain ⟨n, hn⟩ : ∃ n, n = L.length := ⟨_, rfl⟩
  rw [← hn] at h2 hc hf hcap1
  clear h hn
  go_enter Try.func83, Try.ntmps83
  go_wp2
  go_ret
  exact ⟨rfl, rfl⟩

set_option maxHeartbeats 400000 in
theorem at_out {w : World} {hb : Nat} {S : Nat → Prop} {L : Fo} (h : FoAt w hb S L) (id : Int) (h1 : ¬ (1 ≤ id ∧ id ≤ (L.length : Int))) :
    Calls Try.prog 83 #[.pointer (some ⟨hb, 0, none⟩), I id] w fun e w' => e = .returned (.pointer none) ∧ w = w' := by
  obtain ⟨v, kvs, h⟩ := h
  have hc := h.cell
  have hf := h.few
  obtain ⟨ao, cap, rfl, hcap1, hcap2, _⟩ := h.shape
  obtain ⟨n, hn⟩ : ∃ n, n = L.length := ⟨_, rfl⟩
  rw [← hn] at h1 hc hf hcap1
  clear h hn
  by_cases h2 : id < 1
  · clear h1
    go_enter Try.func83, Try.ntmps83
    go_wp2
    go_ret
    exact ⟨rfl, rfl⟩
  · have h3 : (n : Int) < id := by omega
    have h4 : 1 ≤ id := by omega
    clear h1 h2
    go_enter Try.func83, Try.ntmps83
    go_wp2
    go_ret
    exact ⟨rfl, rfl⟩

set_option maxHeartbeats 400000 in
theorem len_calls {w : World} {hb : Nat} {S : Nat → Prop} {L : Fo} (h : FoAt w hb S L) :
    Calls Try.prog 38 #[.pointer (some ⟨hb, 0, none⟩)] w fun e w' => e = .returned (I L.length) ∧ w = w' := by
  obtain ⟨v, kvs, h⟩ := h
  have hc := h.cell
  obtain ⟨ao, cap, rfl, hcap1, hcap2, _⟩ := h.shape
  clear h
  go_enter Try.func38, Try.ntmps38
  go_wp2
  go_ret
  exact ⟨rfl, rfl⟩

theorem nilI (w : World) (a : Option Addr) (n c : Nat) : (Go.binOp .eql 27 (.slice a n c) (.slice none 0 0)).run Try.prog w = .ok (.bool a.isNone) w := Lib.run_eql_slice_nil w _ _ a n c 0 0 Try.underlying27

theorem own_new (w : World) : OwnI (w.alloc (.cells #[] 3)) w.heap.size (.slice (some ⟨w.heap.size, 0, none⟩) 0 0) [] := World.ownsRow_made (size := 1) w #[] 0 (Nat.le_refl _) (by decide) rfl

set_option maxRecDepth 100000 in
set_option maxHeartbeats 400000 in
theorem clone_calls {w : World} {v : Value} {l : List Int} (h : IntsAt w v l) (hl : l.length ≤ 1000000) :
    Calls Try.prog 84 #[v] w fun e w' => ∃ v', e = .returned v' ∧ OwnI w' w.heap.size v' l ∧ Below w.heap.size w w' := by
  have hnil := nilI
  have h0 := h
  obtain ⟨ao, cap, rfl, h1, h2, h3, h4, h5⟩ := h
  cases ao with
  | none =>
    obtain ⟨rfl, rfl⟩ := h3 rfl
    clear h1 h2 h3 h4 h5 h0
    go_enter Try.func84, Try.ntmps84
    go_wp2
    go_ret
    exact ⟨_, rfl, World.ownsRow_nil _ _ _ _, Below.refl _ _⟩
  | some a =>
    have H0 := Lib.hid h0
    clear h1 h2 h3 h4 h5 h0
    go_enter Try.func84, Try.ntmps84
    go_wp2_with (at_builtin; refine appI rfl (.tmp 5) (.tmp 6) rfl w.heap.size _ [] rfl (own_new w) _ l rfl (H0.out.below ((Below.refl _ _).alloc (Nat.le_refl _) _)) (by simp; omega) (by simp) ?_; intro v' w' hown hg)
    have hb := grown_below ((Below.refl w.heap.size w).alloc (Nat.le_refl _) _) (own_new w) hg (by simp) (Nat.le_refl _)
    go_wp2
    go_ret
    exact ⟨_, rfl, hown, hb⟩

theorem below1 (w : World) (o : Obj) : Below w.heap.size w (w.alloc o) := (Below.refl _ _).alloc (Nat.le_refl _) o

set_option maxHeartbeats 400000 in
theorem node_out {w : World} {hb : Nat} {S : Nat → Prop} {L : Fo} (h : FoAt w hb S L) (id : Int) (h1 : there L id = false) :
    Calls Try.prog 22 #[.pointer (some ⟨hb, 0, none⟩), I id] w fun e w' => e = .returned (.tuple #[ndVal {} (.slice none 0 0), .bool false]) ∧ Below w.heap.size w w' := by
  have H1 := Lib.hid (there_false.1 h1)
  have H := Lib.hid h
  clear h1 h
  go_enter Try.func22, Try.ntmps22
  go_wp2_with (go_at_call 83; refine (at_out (H.out.below (below1 _ _)) _ H1.out).mono ?_; rintro e w' ⟨rfl, rfl⟩)
  exact bodyPost_ret (v := .tuple #[ndVal {} (.slice none 0 0), .bool false]) (by simp [results, Try.results22, go_sem]; rfl) rfl ⟨rfl, below1 _ _⟩

theorem alloc2_cell (w : World) (c : Array Value) (t : TypeId) (o : Obj) (j : Nat) : ((w.alloc (.cells c t)).alloc o).cell? ⟨w.heap.size, j, none⟩ = c[j]? := by
  rw [World.cell?_alloc_past _ _ _ (by simp), World.cell?_alloc_at _ _ _ _ rfl]

set_option maxRecDepth 100000 in
set_option maxHeartbeats 400000 in
theorem node_in {w : World} {hb : Nat} {S : Nat → Prop} {L : Fo} (h : FoAt w hb S L) (id : Int) (h1 : there L id = true) :
    Calls Try.prog 22 #[.pointer (some ⟨hb, 0, none⟩), I id] w fun e w' => ∃ kv, e = .returned (.tuple #[ndVal (nd L id) kv, .bool true]) ∧ OwnI w' w.heap.size kv (nd L id).kids ∧ Below w.heap.size w w' := by
  obtain ⟨v, kvs, h⟩ := h
  have ht := there_iff.1 h1
  obtain ⟨ao, cap, rfl, _, _, hsh⟩ := h.shape
  rcases hsh with ⟨rfl, rfl, _⟩ | ⟨g, rfl, hg, _⟩
  · simp at ht; omega
  have hi : id.toNat - 1 < L.length := by omega
  have hk := h.klen
  obtain ⟨off, hoff⟩ : ∃ off, (id.toNat - 1) * 9 = off := ⟨_, rfl⟩
  obtain ⟨x, hx⟩ : ∃ x, nd L id = x := ⟨_, rfl⟩
  have hxe : L[id.toNat - 1] = x := by rw [← hx, nd_get h1 (by omega)]; congr 1; omega
  obtain ⟨kv, hkv⟩ : ∃ kv, kvs[id.toNat - 1]'(by omega) = kv := ⟨_, rfl⟩
  have hn := h.node (id.toNat - 1) hi
  rw [hxe, hkv, hoff] at hn
  have hkid := h.kids (id.toNat - 1) hi
  rw [hxe, hkv] at hkid
  have c0 := hn 0 (by omega)
  have c1 := hn 1 (by omega)
  have c2 := hn 2 (by omega)
  have c3 := hn 3 (by omega)
  have c4 := hn 4 (by omega)
  have c5 := hn 5 (by omega)
  have c6 := hn 6 (by omega)
  have c7 := hn 7 (by omega)
  have c8 := hn 8 (by omega)
  simp only [ndCells, List.getElem?_cons_zero, List.getElem?_cons_succ, Nat.add_zero] at c0 c1 c2 c3 c4 c5 c6 c7 c8
  rw [hx]
  have hfew := h.few
  have H := Lib.hid h
  obtain ⟨ka, kc, rfl⟩ := hkid.shape
  obtain ⟨kn, hkn⟩ : ∃ n, x.kids.length = n := ⟨_, rfl⟩
  rw [hkn] at c8
  have hkf := h.kfew (id.toNat - 1) hi
  rw [hxe] at hkf
  have HK := Lib.hid hkid
  rw [hkn] at HK
  have HKN := Lib.hid hkn
  have HO := Lib.hid hoff
  have HT := Lib.hid ht
  clear hn hkn h hkid hoff hkv hxe hx hk hi h1 ht
  go_enter Try.func22, Try.ntmps22
  go_wp2_with fail
  refine (at_in (H.out.below (below1 _ _)) _ HT.out.1 HT.out.2 off HO.out).mono ?_
  rintro e w' ⟨rfl, rfl⟩
  go_wp2_with fail
  refine (clone_calls ((HK.out.ints.below (below1 _ _)).below (below1 _ _)) (by omega)).mono ?_
  rintro e w' ⟨v', rfl, hown, hb⟩
  obtain ⟨hc, hf⟩ := bcell hb
  have hz : w.heap.size + 1 < w'.heap.size := by have := hb.size; simp at this; omega
  have k0 := (hc w.heap.size 0 (by simp; omega)).trans (alloc2_cell ..)
  have k1 := (hc w.heap.size 1 (by simp; omega)).trans (alloc2_cell ..)
  have k2 := (hc w.heap.size 2 (by simp; omega)).trans (alloc2_cell ..)
  have k3 := (hc w.heap.size 3 (by simp; omega)).trans (alloc2_cell ..)
  have k4 := (hc w.heap.size 4 (by simp; omega)).trans (alloc2_cell ..)
  have k5 := (hc w.heap.size 5 (by simp; omega)).trans (alloc2_cell ..)
  have k6 := (hc w.heap.size 6 (by simp; omega)).trans (alloc2_cell ..)
  have k7 := (hc w.heap.size 7 (by simp; omega)).trans (alloc2_cell ..)
  have k8 := (hc w.heap.size 8 (by simp; omega)).trans (alloc2_cell ..)
  simp at k0 k1 k2 k3 k4 k5 k6 k7 k8
  obtain ⟨va, vc, rfl⟩ := hown.shape
  obtain ⟨n', hn'⟩ : ∃ n', x.kids.length = n' := ⟨_, rfl⟩
  have HN := Lib.hid hn'
  have HW := Lib.hid hown
  have HB := Lib.hid hb
  rw [hn'] at HW ⊢
  clear hn' hown hb
  go_wp2
  refine bodyPost_ret (v := .tuple #[ndVal x (.slice va n' vc), .bool true]) (by simp [results, Try.results22, go_sem, k0, k1, k2, k3, k4, k5, k6, k7, k8]) rfl ⟨_, rfl, ?_, ?_⟩
  · rw [OwnI, HN.out]
    have h2 := HW.out
    rw [OwnI, HN.out] at h2
    refine ownsRow_base ?_ (show w.heap.size ≤ w.heap.size + 2 by omega)
    repeat (refine ownsRow_setCell_below ?_ (show _ < w.heap.size + 2 by simp <;> omega) _)
    exact ownsRow_base h2 (by simp)
  · repeat (refine Below.setCell ?_ (by simp) _)
    exact Below.step (Below.step (below1 w _) (below1 _ _)) HB.out

end Go.Proofs.Ytidekbamlnpglaa

/-
  The walks of the arena's above, rooted, Tie, Name, Want.
-/
import Derived.Test.YtidekbamlnpglaaWf
namespace Go.Proofs.Ytidekbamlnpglaa
open Go.RowKit Tc

theorem length_updN (L : Fo) (a : Int) (g : Nd → Nd) : (updN L a g).length = L.length := by simp [updN]
theorem there_updN (L : Fo) (a : Int) (g : Nd → Nd) (id : Int) : there (updN L a g) id = there L id := by simp [updN]

/-- Where a node lies: its cells. -/
structure Lies (w : World) (g off : Nat) (x : Nd) (kv : Value) : Prop where
  c0 : w.cell? ⟨g, off, none⟩ = some (I x.kind)
  c1 : w.cell? ⟨g, off + 1, none⟩ = some (I x.parent)
  c2 : w.cell? ⟨g, off + 2, none⟩ = some (I x.host)
  c3 : w.cell? ⟨g, off + 3, none⟩ = some (I x.shadow)
  c4 : w.cell? ⟨g, off + 4, none⟩ = some (I x.mode)
  c5 : w.cell? ⟨g, off + 5, none⟩ = some (.bool x.slot)
  c6 : w.cell? ⟨g, off + 6, none⟩ = some (.string x.name)
  c7 : w.cell? ⟨g, off + 7, none⟩ = some (.string x.want)
  c8 : w.cell? ⟨g, off + 8, none⟩ = some kv
  free : ∀ j, w.frozen? ⟨g, j, none⟩ = false

/-- The forest's nodes lie in a row, from block g's head on. -/
abbrev FoG (w : World) (hb : Nat) (S : Nat → Prop) (L : Fo) (g cap : Nat) (kvs : List Value) : Prop := FoIn w hb S L (.slice (some ⟨g, 0, none⟩) L.length cap) kvs

theorem FoAt.openG {w : World} {hb : Nat} {S : Nat → Prop} {L : Fo} (h : FoAt w hb S L) {id : Int} (ht : there L id = true) : ∃ g cap kvs, FoG w hb S L g cap kvs := by
  obtain ⟨v, kvs, h⟩ := h
  obtain ⟨ao, cap, rfl, _, _, hs⟩ := h.shape
  rcases hs with ⟨rfl, rfl, _⟩ | ⟨g, rfl, _, _⟩
  · have := there_iff.1 ht; simp at this; omega
  · exact ⟨g, cap, kvs, h⟩
theorem FoIn.lies {w : World} {hb : Nat} {S : Nat → Prop} {L : Fo} {g cap : Nat} {kvs : List Value} (h : FoG w hb S L g cap kvs) {id : Int} (ht : there L id = true) {off : Nat} (ho : (id.toNat - 1) * 9 = off) :
    ∃ kv, Lies w g off (nd L id) kv ∧ OwnI w 0 kv (nd L id).kids ∧ (∀ k, kv.ownBlock = some k → S k) ∧ (nd L id).kids.length ≤ 128 ∧ kvs[id.toNat - 1]? = some kv := by
  have ht' := there_iff.1 ht
  have hi : id.toNat - 1 < L.length := by omega
  have hk := h.klen
  have hx : L[id.toNat - 1] = nd L id := by rw [nd_get ht (by omega)]; congr 1; omega
  have hn := h.node (id.toNat - 1) hi
  have hkid := h.kids (id.toNat - 1) hi
  have hkS := h.kidsS (id.toNat - 1) hi
  have hkf := h.kfew (id.toNat - 1) hi
  obtain ⟨kv, hkv⟩ : ∃ kv, kvs[id.toNat - 1]'(by omega) = kv := ⟨_, rfl⟩
  rw [hkv] at hkid hkS
  rw [hx] at hkid hkf
  rw [hx, hkv, ho] at hn
  have c0 := hn 0 (by omega)
  have c1 := hn 1 (by omega)
  have c2 := hn 2 (by omega)
  have c3 := hn 3 (by omega)
  have c4 := hn 4 (by omega)
  have c5 := hn 5 (by omega)
  have c6 := hn 6 (by omega)
  have c7 := hn 7 (by omega)
  have c8 := hn 8 (by omega)
  simp only [ndCells, List.getElem?_cons_zero, List.getElem?_cons_succ, Nat.add_zero] at c0 c1 c2 c3 c4 c5 c6 c7 c8
  exact ⟨kv, ⟨c0, c1, c2, c3, c4, c5, c6, c7, c8, h.free⟩, hkid, hkS, hkf, by rw [← hkv, List.getElem?_eq_getElem]⟩

/-- A store into a node's field. -/
theorem FoIn.store {w : World} {hb : Nat} {S : Nat → Prop} {L : Fo} {g cap : Nat} {kvs : List Value} (h : FoG w hb S L g cap kvs) {id : Int} (ht : there L id = true) {off : Nat} (ho : (id.toNat - 1) * 9 = off)
    {j : Nat} (hj : j < 8) {u : Value} (f : Nd → Nd) (he : ∀ kv, (ndCells (nd L id) kv).set j u = ndCells (f (nd L id)) kv) (hk : (f (nd L id)).kids = (nd L id).kids) :
    FoG (w.setCell ⟨g, off + j, none⟩ u) hb S (updN L id f) g cap kvs := by
  have ht' := there_iff.1 ht
  have hi : id.toNat - 1 < L.length := by omega
  have hkl := h.klen
  have hx : L[id.toNat - 1] = nd L id := by rw [nd_get ht (by omega)]; congr 1; omega
  have hs := h.set (id.toNat - 1) j hi (by omega) u (f (nd L id)) (kvs[id.toNat - 1]'(by omega)) (by rw [hx]; exact he _)
    (by have := h.kids (id.toNat - 1) hi; rw [hx] at this; rw [hk]; exact this) (h.kidsS (id.toNat - 1) hi) (by rw [hk]; have := h.kfew (id.toNat - 1) hi; rw [hx] at this; exact this)
  rw [ho, List.set_getElem_self] at hs
  have hL : L.set (id.toNat - 1) (f (nd L id)) = updN L id f := by
    refine fo_ext (by simp [updN]) fun q hq => ?_
    have hq' := there_iff.1 hq
    rw [List.length_set] at hq'
    rw [nd_updN ht, nd_get hq (by simp; omega)]
    by_cases e : q = id
    · subst e
      rw [if_pos rfl]
      have e1 : (q - 1).toNat = q.toNat - 1 := by omega
      simp [e1]
    · rw [if_neg e, List.getElem_set_ne (by omega), nd_get (there_iff.2 hq') (by omega)]
  rw [hL] at hs
  show FoIn _ hb S (updN L id f) (.slice (some ⟨g, 0, none⟩) (updN L id f).length cap) kvs
  rw [length_updN]; exact hs

/-- (*Forest).at, where the node is there. -/
theorem at_G {w : World} {hb : Nat} {S : Nat → Prop} {L : Fo} {kvs : List Value} {g cap : Nat} (h : FoG w hb S L g cap kvs) {id : Int} (ht : there L id = true) {off : Nat} (ho : (id.toNat - 1) * 9 = off) :
    Calls Try.prog 83 #[.pointer (some ⟨hb, 0, none⟩), I id] w fun e w' => e = .returned (.pointer (some ⟨g, off, none⟩)) ∧ w = w' :=
  at_in h id (there_iff.1 ht).1 (there_iff.1 ht).2 off ho

set_option maxRecDepth 100000 in
set_option maxHeartbeats 400000 in
theorem aabove_calls {w : World} {hb : Nat} {S : Nat → Prop} {L : Fo} (h : FoAt w hb S L) (hW : WF L) (a b : Int) (hb0 : there L b = true) :
    Calls Try.prog 127 #[.pointer (some ⟨hb, 0, none⟩), I a, I b] w fun e w' => e = .returned (.bool (decide (a ∈ over L b))) ∧ w = w' := by
  obtain ⟨g, cap, kvs, h⟩ := h.openG hb0
  have hfew := h.few
  have H := Lib.hid h
  have HW := Lib.hid hW
  have HB := Lib.hid hb0
  clear h hW hb0
  go_enter Try.func127, Try.ntmps127
  go_wp2
  go_loop [2] (fun i => ∃ cur, i = I cur ∧ (a ∈ over L b ↔ a ∈ over L cur) ∧ (cur ≠ 0 → there L cur = true)) (fun i => (over L (intOf i)).length)
  case atStart => exact ⟨b, rfl, Iff.rfl, fun _ => HB.out⟩
  case round =>
    obtain ⟨cur, rfl, hr, hc⟩ := hrel
    have HR := Lib.hid hr
    clear hr
    by_cases h0 : cur = 0
    · have hn : ¬ 0 < cur := by omega
      have HZ := Lib.hid h0
      clear h0 hc
      go_wp2
      go_ret
      refine ⟨?_, rfl⟩
      have : decide (a ∈ over L b) = false := by rw [decide_eq_false_iff_not, HR.out, HZ.out, over_not (there_zero L)]; simp
      rw [this]; rfl
    · have ht := hc h0
      have hpos : 0 < cur := by have := there_iff.1 ht; omega
      clear hc h0
      by_cases ha : a = cur
      · have ha' : (a == cur) = true := by simpa using ha
        have HA := Lib.hid ha
        have HT := Lib.hid ht
        clear ha ht
        go_wp2
        go_ret
        refine ⟨?_, rfl⟩
        have : decide (a ∈ over L b) = true := by rw [decide_eq_true_iff, HR.out, HA.out]; exact mem_over_self HW.out.ends HT.out
        rw [this]; rfl
      · have ha' : (a == cur) = false := by simpa using ha
        obtain ⟨off, ho⟩ : ∃ off, (cur.toNat - 1) * 9 = off := ⟨_, rfl⟩
        obtain ⟨kv, hl, _, _, _⟩ := H.out.lies ht ho
        have c1 := hl.c1
        have c2 := hl.c2
        have hoc := over_cons HW.out.ends ht
        have hot : over1 L cur ≠ 0 → there L (over1 L cur) = true := fun e => HW.out.over_there e
        have HO := Lib.hid ho
        have HT := Lib.hid ht
        have HC := Lib.hid hoc
        have HOT := Lib.hid hot
        have HA := Lib.hid ha
        obtain ⟨x, hx⟩ : ∃ x, nd L cur = x := ⟨_, rfl⟩
        rw [hx] at c1 c2
        by_cases hp : x.parent = 0
        · have hp' : (x.parent == 0) = true := by simpa using hp
          have hov : over1 L cur = x.host := by unfold over1 par hst; rw [hx, if_pos hp]
          have HV := Lib.hid hov
          clear hl ho ht hoc hot ha hx hp hov
          go_wp2_with (go_at_call 83; refine (at_G H.out HT.out HO.out).mono ?_; rintro e w1 ⟨rfl, rfl⟩)
          go_round
          case rel =>
            refine ⟨x.host, rfl, ?_, ?_⟩
            · rw [HR.out, HC.out, HV.out, List.mem_cons]; exact ⟨fun h => h.elim (fun e => absurd e HA.out) id, Or.inr⟩
            · rw [← HV.out]; exact HOT.out
          case measure => simp only [intOf]; rw [HC.out, HV.out]; simp
        · have hp' : (x.parent == 0) = false := by simpa using hp
          have hov : over1 L cur = x.parent := by unfold over1 par hst; rw [hx, if_neg hp]
          have HV := Lib.hid hov
          clear hl ho ht hoc hot ha hx hp hov
          go_wp2_with (go_at_call 83; refine (at_G H.out HT.out HO.out).mono ?_; rintro e w1 ⟨rfl, rfl⟩)
          go_round
          case rel =>
            refine ⟨x.parent, rfl, ?_, ?_⟩
            · rw [HR.out, HC.out, HV.out, List.mem_cons]; exact ⟨fun h => h.elim (fun e => absurd e HA.out) id, Or.inr⟩
            · rw [← HV.out]; exact HOT.out
          case measure => simp only [intOf]; rw [HC.out, HV.out]; simp


set_option maxRecDepth 100000 in
set_option maxHeartbeats 400000 in
theorem name_calls {w : World} {hb : Nat} {S : Nat → Prop} {L : Fo} (h : FoAt w hb S L) (id : Int) (s : ByteArray) :
    Calls Try.prog 81 #[.pointer (some ⟨hb, 0, none⟩), I id, .string s] w fun e w' => e = .returned (I (nameF L id s).2) ∧ Turned w w' hb S (nameF L id s).1 := by
  by_cases ht : there L id = true
  · obtain ⟨g, cap, kvs, hg⟩ := h.openG ht
    obtain ⟨off, ho⟩ : ∃ off, (id.toNat - 1) * 9 = off := ⟨_, rfl⟩
    have HT := Lib.hid ht
    have HO := Lib.hid ho
    have H := Lib.hid hg
    have H0 := Lib.hid h
    by_cases hn : namedB s = true
    · by_cases hq : (nd L id).slot = true
      · have hv : nameF L id s = (updN L id fun x => { x with name := s }, 0) := by
          have hE : nameE L id s = 0 := by unfold nameE; rw [if_neg (by rw [ht, hn]; simp), if_neg (by rw [hq]; simp)]
          unfold nameF; rw [hE]; rfl
        have q1 : (!(nd L id).slot) = false := by simp [hq]
        have q2 : (nd L id).slot = true := hq
        have HQ := Lib.hid hq
        have HV := Lib.hid hv
        clear ht ho hg h hv hq
        go_enter Try.func81, Try.ntmps81
        go_wp2_with fail
        refine (at_G H.out HT.out HO.out).mono ?_
        rintro e w1 ⟨rfl, rfl⟩
        go_wp2_with fail
        refine (named_calls _ s).mono ?_
        rw [hn]
        rintro e w1 ⟨rfl, hb1⟩
        obtain ⟨kv, hl, _, _, _⟩ := (H.out.below hb1).lies HT.out HO.out
        have cc := hl.c5
        have cs := hl.c6
        have cf := hl.free (off + 6)
        have HB1 := Lib.hid hb1
        clear hl hb1
        go_wp2
        go_ret
        rw [HV.out]
        refine ⟨rfl, ?_, ?_⟩
        · have := (H.out.below HB1.out).store HT.out HO.out (j := 6) (by omega) (u := .string s) (fun x => { x with name := s }) (fun kv => rfl) rfl
          exact (show FoAt _ hb S _ from ⟨_, _, this⟩).mono fun _ _ hk => Or.inl hk
        · exact (Keeps.of_below HB1.out).trans (Keeps.set (p := ⟨g, off + 6, none⟩) (H.out.rowS g rfl) _)
      · have hv : nameF L id s = (L, 2) := by
          have hE : nameE L id s = 2 := by unfold nameE; rw [if_neg (by rw [ht, hn]; simp), if_pos (by simpa using hq)]
          unfold nameF; rw [hE]; rfl
        have q2 : (nd L id).slot = false := by simpa using hq
        have HQ := Lib.hid hq
        have HV := Lib.hid hv
        clear ht ho hg h hv hq
        go_enter Try.func81, Try.ntmps81
        go_wp2_with fail
        refine (at_G H.out HT.out HO.out).mono ?_
        rintro e w1 ⟨rfl, rfl⟩
        go_wp2_with fail
        refine (named_calls _ s).mono ?_
        rw [hn]
        rintro e w1 ⟨rfl, hb1⟩
        obtain ⟨kv, hl, _, _, _⟩ := (H.out.below hb1).lies HT.out HO.out
        have cc := hl.c5
        have HB1 := Lib.hid hb1
        clear hl hb1
        go_wp2
        go_ret
        rw [HV.out]
        exact ⟨rfl, Turned.of_below H0.out HB1.out⟩
    · have hn' : namedB s = false := by simpa using hn
      have hv : nameF L id s = (L, 1) := by
        have hE : nameE L id s = 1 := by unfold nameE; rw [if_pos (Or.inr hn')]
        unfold nameF; rw [hE]; rfl
      have HV := Lib.hid hv
      clear ht ho hg h hv hn
      go_enter Try.func81, Try.ntmps81
      go_wp2_with fail
      refine (at_G H.out HT.out HO.out).mono ?_
      rintro e w1 ⟨rfl, rfl⟩
      go_wp2_with fail
      refine (named_calls _ s).mono ?_
      rw [hn']
      rintro e w1 ⟨rfl, hb1⟩
      go_wp2
      go_ret
      rw [HV.out]
      exact ⟨rfl, Turned.of_below H0.out hb1⟩
  · have ht' : there L id = false := by simpa using ht
    have hv : nameF L id s = (L, 1) := by
      have hE : nameE L id s = 1 := by unfold nameE; rw [if_pos (Or.inl ht')]
      unfold nameF; rw [hE]; rfl
    have HV := Lib.hid hv
    have HT := Lib.hid (there_false.1 ht')
    have H0 := Lib.hid h
    clear ht ht' h hv
    go_enter Try.func81, Try.ntmps81
    go_wp2_with fail
    refine (at_out H0.out id HT.out).mono ?_
    rintro e w1 ⟨rfl, rfl⟩
    go_wp2
    go_ret
    rw [HV.out]
    exact ⟨rfl, Turned.of_below H0.out (Below.refl _ _)⟩

set_option maxRecDepth 100000 in
set_option maxHeartbeats 400000 in
theorem want_calls {w : World} {hb : Nat} {S : Nat → Prop} {L : Fo} (h : FoAt w hb S L) (id : Int) (s : ByteArray) :
    Calls Try.prog 82 #[.pointer (some ⟨hb, 0, none⟩), I id, .string s] w fun e w' => e = .returned (I (wantF L id s).2) ∧ Turned w w' hb S (wantF L id s).1 := by
  by_cases ht : there L id = true
  · obtain ⟨g, cap, kvs, hg⟩ := h.openG ht
    obtain ⟨off, ho⟩ : ∃ off, (id.toNat - 1) * 9 = off := ⟨_, rfl⟩
    have HT := Lib.hid ht
    have HO := Lib.hid ho
    have H := Lib.hid hg
    have H0 := Lib.hid h
    by_cases hn : namedB s = true
    · by_cases hq : (nd L id).kind = 2
      · have hv : wantF L id s = (updN L id fun x => { x with want := s }, 0) := by
          have hE : wantE L id s = 0 := by unfold wantE; rw [if_neg (by rw [ht, hn]; simp), if_neg (by rw [hq]; simp)]
          unfold wantF; rw [hE]; rfl
        have q2 : ((nd L id).kind != 2) = false := by simp [hq]
        have HQ := Lib.hid hq
        have HV := Lib.hid hv
        clear ht ho hg h hv hq
        go_enter Try.func82, Try.ntmps82
        go_wp2_with fail
        refine (at_G H.out HT.out HO.out).mono ?_
        rintro e w1 ⟨rfl, rfl⟩
        go_wp2_with fail
        refine (named_calls _ s).mono ?_
        rw [hn]
        rintro e w1 ⟨rfl, hb1⟩
        obtain ⟨kv, hl, _, _, _⟩ := (H.out.below hb1).lies HT.out HO.out
        have cc := hl.c0
        have cs := hl.c7
        have cf := hl.free (off + 7)
        have HB1 := Lib.hid hb1
        clear hl hb1
        go_wp2
        go_ret
        rw [HV.out]
        refine ⟨rfl, ?_, ?_⟩
        · have := (H.out.below HB1.out).store HT.out HO.out (j := 7) (by omega) (u := .string s) (fun x => { x with want := s }) (fun kv => rfl) rfl
          exact (show FoAt _ hb S _ from ⟨_, _, this⟩).mono fun _ _ hk => Or.inl hk
        · exact (Keeps.of_below HB1.out).trans (Keeps.set (p := ⟨g, off + 7, none⟩) (H.out.rowS g rfl) _)
      · have hv : wantF L id s = (L, 2) := by
          have hE : wantE L id s = 2 := by unfold wantE; rw [if_neg (by rw [ht, hn]; simp), if_pos hq]
          unfold wantF; rw [hE]; rfl
        have q2 : ((nd L id).kind != 2) = true := by simpa using hq
        have HQ := Lib.hid hq
        have HV := Lib.hid hv
        clear ht ho hg h hv hq
        go_enter Try.func82, Try.ntmps82
        go_wp2_with fail
        refine (at_G H.out HT.out HO.out).mono ?_
        rintro e w1 ⟨rfl, rfl⟩
        go_wp2_with fail
        refine (named_calls _ s).mono ?_
        rw [hn]
        rintro e w1 ⟨rfl, hb1⟩
        obtain ⟨kv, hl, _, _, _⟩ := (H.out.below hb1).lies HT.out HO.out
        have cc := hl.c0
        have HB1 := Lib.hid hb1
        clear hl hb1
        go_wp2
        go_ret
        rw [HV.out]
        exact ⟨rfl, Turned.of_below H0.out HB1.out⟩
    · have hn' : namedB s = false := by simpa using hn
      have hv : wantF L id s = (L, 1) := by
        have hE : wantE L id s = 1 := by unfold wantE; rw [if_pos (Or.inr hn')]
        unfold wantF; rw [hE]; rfl
      have HV := Lib.hid hv
      clear ht ho hg h hv hn
      go_enter Try.func82, Try.ntmps82
      go_wp2_with fail
      refine (at_G H.out HT.out HO.out).mono ?_
      rintro e w1 ⟨rfl, rfl⟩
      go_wp2_with fail
      refine (named_calls _ s).mono ?_
      rw [hn']
      rintro e w1 ⟨rfl, hb1⟩
      go_wp2
      go_ret
      rw [HV.out]
      exact ⟨rfl, Turned.of_below H0.out hb1⟩
  · have ht' : there L id = false := by simpa using ht
    have hv : wantF L id s = (L, 1) := by
      have hE : wantE L id s = 1 := by unfold wantE; rw [if_pos (Or.inl ht')]
      unfold wantF; rw [hE]; rfl
    have HV := Lib.hid hv
    have HT := Lib.hid (there_false.1 ht')
    have H0 := Lib.hid h
    clear ht ht' h hv
    go_enter Try.func82, Try.ntmps82
    go_wp2_with fail
    refine (at_out H0.out id HT.out).mono ?_
    rintro e w1 ⟨rfl, rfl⟩
    go_wp2
    go_ret
    rw [HV.out]
    exact ⟨rfl, Turned.of_below H0.out (Below.refl _ _)⟩

theorem at_any {w : World} {hb : Nat} {S : Nat → Prop} {L : Fo} (h : FoAt w hb S L) (id : Int) :
    Calls Try.prog 83 #[.pointer (some ⟨hb, 0, none⟩), I id] w fun e w' => ∃ p, e = .returned (.pointer p) ∧ w = w' := by
  by_cases ht : there L id = true
  · obtain ⟨g, cap, kvs, hg⟩ := h.openG ht
    refine (at_G hg ht rfl).mono ?_
    rintro e w' ⟨rfl, rfl⟩
    exact ⟨_, rfl, rfl⟩
  · refine (at_out h id (there_false.1 (by simpa using ht))).mono ?_
    rintro e w' ⟨rfl, rfl⟩
    exact ⟨_, rfl, rfl⟩

theorem tie_upd {L : Fo} {a r : Int} (ha : there L a = true) (hr : there L r = true) (hne : a ≠ r) : tieL L a r = updN (updN L a fun x => { x with shadow := r }) r fun x => { x with host := a } := by
  refine fo_ext (by simp [tieL, updN]) fun q hq => ?_
  rw [nd_tieL ha hr, nd_updN (by rw [there_updN]; exact hr), nd_updN ha]
  by_cases e1 : q = r
  · have e2 : q ≠ a := fun e => hne (e ▸ e1)
    rw [if_neg e2, if_pos e1, if_pos e1, if_neg e2]
  · rw [if_neg e1, if_neg e1]
    by_cases e2 : q = a
    · rw [if_pos e2, if_pos e2]
    · rw [if_neg e2, if_neg e2]

end Go.Proofs.Ytidekbamlnpglaa

/-
  A list of calls, as an argument: opened.
-/
import Derived.Test.YtidekbamlnpglaaWk
import Derived.Deep.Slices
namespace Go.Proofs.Ytidekbamlnpglaa
open Go.RowKit Tc
open Go.ChangeShapes Go.WideShapes

section
variable {H : Type} {enc : TypeId × Value → H} {W : World}
abbrev Reads (enc : TypeId × Value → H) (W : World) (t : TypeId) (cs : List Value) : Prop := ∃ fuel x, DataW.trod enc Try.prog W 0 (fun _ => true) true fuel t cs = some x

theorem ints_open {v : Value} (h : Reads enc W 27 [v]) : ∃ l, IntsAt W v l := by
  obtain ⟨fuel, x, h⟩ := h
  rcases open_ints Try.underlying27 Try.underlying3 (by kernel_rfl) h with ⟨e, _⟩ | ⟨a, len, cap, zs, e, _, h1, h2, hz, _, hc, _⟩
  · simp only [List.cons.injEq, and_true] at e
    subst e
    exact ⟨[], IntsAt.nil W⟩
  · simp only [List.cons.injEq, and_true] at e
    subst e
    rw [if_pos rfl] at hz
    have hl : (zs.take len).length = len := by rw [List.length_take]; omega
    have hsp : 0 < len → a.spot = none := fun hp => by
      have := hc 0 (by omega)
      cases hs : a.spot with
      | none => rfl
      | some q => exfalso; unfold World.cell? Addr.add at this; rw [if_pos rfl, hs] at this; split at this <;> simp_all
    refine ⟨zs.take len, some a, cap, by rw [hl], by rw [hl]; exact h1, h2, by simp, ?_, ?_⟩
    · intro b e hne
      cases e
      exact hsp (by rw [← hl]; exact List.length_pos_iff.2 hne)
    · intro b off e j hj
      cases e
      rw [hl] at hj
      have q := hc j (by omega)
      have e2 : (⟨b, off, none⟩ : Addr).add j = ⟨b, off + j, none⟩ := by
        unfold Addr.add; split
        · rename_i e; simp
        · rfl
      rw [e2] at q
      rw [q]
      simp [List.getD, hj]

theorem get_of_take {cs : List Value} {off : Nat} {v : Value} (h : (cs.drop off).take 1 = [v]) : cs[off]? = some v := by
  have : ((cs.drop off).take 1)[0]? = some v := by rw [h]; rfl
  rw [List.getElem?_take] at this
  simpa using this
theorem c1int : Try.prog.cellsOf 3 = 1 := by kernel_rfl
theorem c1str : Try.prog.cellsOf 9 = 1 := by kernel_rfl
theorem c1bool : Try.prog.cellsOf 4 = 1 := by kernel_rfl
theorem c1ints : Try.prog.cellsOf 27 = 1 := by kernel_rfl
theorem c9 : Try.prog.cellsOf 29 = 9 := by kernel_rfl
theorem c14 : Try.prog.cellsOf 75 = 14 := by kernel_rfl

theorem fInt {cs : List Value} {off fuel : Nat} {y : Option (DataW H × List MemPlace)} (hy : y.isSome) (h : DataW.trod enc Try.prog W 0 (fun _ => true) true fuel 3 ((cs.drop off).take (Try.prog.cellsOf 3)) = y) : ∃ n, cs[off]? = some (I n) := by
  obtain ⟨x, rfl⟩ := Option.isSome_iff_exists.1 hy
  obtain ⟨n, e, _⟩ := DataW.trod_int Try.underlying3 h
  rw [c1int] at e
  exact ⟨n, get_of_take e⟩
theorem fStr {cs : List Value} {off fuel : Nat} {y : Option (DataW H × List MemPlace)} (hy : y.isSome) (h : DataW.trod enc Try.prog W 0 (fun _ => true) true fuel 9 ((cs.drop off).take (Try.prog.cellsOf 9)) = y) : ∃ n, cs[off]? = some (.string n) := by
  obtain ⟨x, rfl⟩ := Option.isSome_iff_exists.1 hy
  obtain ⟨n, e, _⟩ := DataW.trod_string Try.underlying9 h
  rw [c1str] at e
  exact ⟨n, get_of_take e⟩
theorem fBool {cs : List Value} {off fuel : Nat} {y : Option (DataW H × List MemPlace)} (hy : y.isSome) (h : DataW.trod enc Try.prog W 0 (fun _ => true) true fuel 4 ((cs.drop off).take (Try.prog.cellsOf 4)) = y) : ∃ n, cs[off]? = some (.bool n) := by
  obtain ⟨x, rfl⟩ := Option.isSome_iff_exists.1 hy
  obtain ⟨n, e, _⟩ := DataW.trod_bool Try.underlying4 h
  rw [c1bool] at e
  exact ⟨n, get_of_take e⟩
theorem fInts {cs : List Value} {off fuel : Nat} {y : Option (DataW H × List MemPlace)} (hy : y.isSome) (hoff : off < cs.length) (h : DataW.trod enc Try.prog W 0 (fun _ => true) true fuel 27 ((cs.drop off).take (Try.prog.cellsOf 27)) = y) : ∃ v l, cs[off]? = some v ∧ IntsAt W v l := by
  obtain ⟨x, rfl⟩ := Option.isSome_iff_exists.1 hy
  rw [c1ints, List.drop_eq_getElem_cons hoff] at h
  obtain ⟨l, hl⟩ := ints_open ⟨_, _, h⟩
  exact ⟨cs[off], l, List.getElem?_eq_getElem hoff, hl⟩

set_option maxRecDepth 100000 in
theorem node_open {cs : List Value} (h : Reads enc W 29 cs) : ∃ (x : Nd) (kv : Value), cs = ndCells x kv ∧ IntsAt W kv x.kids := by
  obtain ⟨fuel, x, h⟩ := h
  obtain ⟨xs, n, _, _, hlen, hxl, hf⟩ := DataW.trod_struct Try.underlying29 h
  rw [c9] at hlen
  have hx9 : xs.length = 9 := hxl
  have hs : ∀ i, i < 9 → (xs[i]?).isSome := fun i hi => by rw [List.getElem?_eq_getElem (by omega)]; rfl
  obtain ⟨v0, e0⟩ := fInt (off := 0) (hs 0 (by omega)) (hf 0 _ rfl)
  obtain ⟨v1, e1⟩ := fInt (off := 1) (hs 1 (by omega)) (hf 1 _ rfl)
  obtain ⟨v2, e2⟩ := fInt (off := 2) (hs 2 (by omega)) (hf 2 _ rfl)
  obtain ⟨v3, e3⟩ := fInt (off := 3) (hs 3 (by omega)) (hf 3 _ rfl)
  obtain ⟨v4, e4⟩ := fInt (off := 4) (hs 4 (by omega)) (hf 4 _ rfl)
  obtain ⟨v5, e5⟩ := fBool (off := 5) (hs 5 (by omega)) (hf 5 _ rfl)
  obtain ⟨v6, e6⟩ := fStr (off := 6) (hs 6 (by omega)) (hf 6 _ rfl)
  obtain ⟨v7, e7⟩ := fStr (off := 7) (hs 7 (by omega)) (hf 7 _ rfl)
  obtain ⟨v8, l, e8, hl⟩ := fInts (off := 8) (hs 8 (by omega)) (by omega) (hf 8 _ rfl)
  refine ⟨{ kind := v0, parent := v1, host := v2, shadow := v3, mode := v4, slot := v5, name := v6, want := v7, kids := l }, v8, ?_, hl⟩
  match cs, hlen with
  | [c0, c1, c2, c3, c4, c5, c6, c7, c8], _ =>
    simp at e0 e1 e2 e3 e4 e5 e6 e7 e8
    subst e0 e1 e2 e3 e4 e5 e6 e7 e8
    rfl

set_option maxRecDepth 100000 in
theorem act_open {cs : List Value} (h : Reads enc W 75 cs) : ∃ (x : Tc.Act) (kv lv : Value), cs = actCells x kv lv ∧ IntsAt W kv x.n.kids ∧ IntsAt W lv x.l := by
  obtain ⟨fuel, x, h⟩ := h
  obtain ⟨xs, n, _, _, hlen, hxl, hf⟩ := DataW.trod_struct Try.underlying75 h
  rw [c14] at hlen
  have hx9 : xs.length = 6 := hxl
  have hs : ∀ i, i < 6 → (xs[i]?).isSome := fun i hi => by rw [List.getElem?_eq_getElem (by omega)]; rfl
  obtain ⟨v0, e0⟩ := fInt (off := 0) (hs 0 (by omega)) (hf 0 _ rfl)
  obtain ⟨v1, e1⟩ := fInt (off := 1) (hs 1 (by omega)) (hf 1 _ rfl)
  obtain ⟨v2, e2⟩ := fInt (off := 2) (hs 2 (by omega)) (hf 2 _ rfl)
  obtain ⟨v3, e3⟩ := fStr (off := 3) (hs 3 (by omega)) (hf 3 _ rfl)
  obtain ⟨v5, l, e5, hl⟩ := fInts (off := 13) (hs 5 (by omega)) (by omega) (hf 5 _ rfl)
  have h4 : DataW.trod enc Try.prog W 0 (fun _ => true) true n 29 ((cs.drop 4).take (Try.prog.cellsOf 29)) = xs[4]? := hf 4 _ rfl
  obtain ⟨y4, hy4⟩ := Option.isSome_iff_exists.1 (hs 4 (by omega))
  rw [hy4, c9] at h4
  obtain ⟨z, kv, ez, hk⟩ := node_open ⟨_, _, h4⟩
  refine ⟨{ kind := v0, a := v1, b := v2, s := v3, n := z, l := l }, kv, v5, ?_, hk, hl⟩
  match cs, hlen with
  | [c0, c1, c2, c3, c4, c5, c6, c7, c8, c9, c10, c11, c12, c13], _ =>
    simp [ndCells] at e0 e1 e2 e3 e5 ez
    obtain ⟨q0, q1, q2, q3, q4, q5, q6, q7, q8⟩ := ez
    subst e0 e1 e2 e3 e5 q0 q1 q2 q3 q4 q5 q6 q7 q8
    rfl

theorem acts_open {v : Value} (h : Reads enc W 22 [v]) : ∃ l, ActsAt W v l := by
  obtain ⟨fuel, x, h⟩ := h
  rcases Go.Deep.open_slice Try.underlying22 h with ⟨e, _⟩ | ⟨a, len, cap, m, n, D, Pl, e, _, h1, h2, hm, _, hx⟩
  · simp only [List.cons.injEq, and_true] at e
    subst e
    exact ⟨[], none, 0, rfl, Nat.le_refl _, by unfold maxLen; omega, (by intro _; exact ⟨rfl, rfl⟩), (by intro _ h; cases h), (by intro _ _ h; cases h)⟩
  · simp only [List.cons.injEq, and_true] at e
    subst e
    rw [if_pos rfl] at hm
    subst hm
    rw [c14] at hx
    have each : ∀ i, i < len → ∃ p : Tc.Act × Value × Value, (∀ j u, (actCells p.1 p.2.1 p.2.2)[j]? = some u → W.cell? ((a.add (i * 14)).add j) = some u) ∧ IntsAt W p.2.1 p.1.n.kids ∧ IntsAt W p.2.2 p.1.l := by
      intro i hi
      obtain ⟨cs', hc, ht⟩ := hx i (by omega)
      obtain ⟨_, hl, hcell⟩ := World.cells?_some hc
      obtain ⟨x, kv, lv, rfl, hk, hl2⟩ := act_open ⟨_, _, ht⟩
      refine ⟨(x, kv, lv), fun j u hu => ?_, hk, hl2⟩
      have hj : j < 14 := by
        have := (List.getElem?_eq_some_iff.1 hu).1
        simpa [actCells] using this
      rw [hcell j hj]; exact hu
    haveI : Inhabited (Tc.Act × Value × Value) := ⟨({}, .bool false, .bool false)⟩
    obtain ⟨f, hf⟩ := Go.Deep.choose_lt each
    have hll : ((List.range len).map fun i => (f i).1).length = len := by simp
    refine ⟨(List.range len).map fun i => (f i).1, some a, m, by rw [hll], by rw [hll]; exact h1, h2, by simp, ?_, ?_⟩
    · intro b e hne
      cases e
      have hp : 0 < len := by rw [← hll]; exact List.length_pos_iff.2 hne
      have q := (hf 0 hp).1 0 _ rfl
      cases hs : a.spot with
      | none => rfl
      | some q2 => exfalso; unfold World.cell? Addr.add at q; simp only [Nat.zero_mul, if_pos] at q; rw [hs] at q; split at q <;> simp_all
    · intro b off e i hi
      cases e
      rw [hll] at hi
      obtain ⟨hc, hk, hl⟩ := hf i hi
      refine ⟨(f i).2.1, (f i).2.2, ?_, ?_, ?_⟩
      · intro j u hu
        simp only [List.getElem_map, List.getElem_range] at hu
        have q := hc j u hu
        rw [Go.Deep.add_add] at q
        have e2 : (⟨b, off, none⟩ : Addr).add (i * 14 + j) = ⟨b, off + i * 14 + j, none⟩ := by
          unfold Addr.add; split
          · rename_i e; have : i = 0 := by omega
            have : j = 0 := by omega
            subst_vars; simp
          · simp [Nat.add_assoc]
        rw [e2] at q
        exact q
      · simpa using hk
      · simpa using hl
end

end Go.Proofs.Ytidekbamlnpglaa

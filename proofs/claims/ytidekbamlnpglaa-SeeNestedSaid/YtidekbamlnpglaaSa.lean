/-
  The walks of slices.IndexFunc and slices.DeleteFunc with a test that may lay new memory.
-/
import Derived.Test.YtidekbamlnpglaaWi
import Derived.Lib.SliceRun
import Derived.Shelf.Abstract
namespace Go.Proofs.Ytidekbamlnpglaa
open Go.RowKit Tc

/-- What a function value answers of a number, in any world that differs from this one in blocks of S alone. -/
def PredOn (S : Nat → Prop) (w : World) (k : Nat) (caps : Array Value) (p : Int → Bool) : Prop :=
  ∀ w', Keeps S w w' → ∀ x : Int, Calls Try.prog k (#[I x] ++ caps) w' fun e w'' => e = .returned (.bool (p x)) ∧ Below w'.heap.size w' w''
abbrev EntersF (k : Nat) : Prop := ∀ args w, (callFunc k args).run Try.prog w = .ok (.enter k args) w

theorem PredOn.next {S : Nat → Prop} {w w1 : World} {k : Nat} {caps : Array Value} {p : Int → Bool} (h : PredOn S w k caps p) (h1 : Keeps S w w1) : PredOn S w1 k caps p :=
  fun w' hk x => h w' (h1.trans hk) x

/-- Where the first number is that a test takes. -/
def IdxOf (p : Int → Bool) (l : List Int) (r : Int) : Prop :=
  (r = -1 ∧ ∀ j, j < l.length → p (l.getD j 0) = false) ∨ ∃ k : Nat, r = k ∧ k < l.length ∧ p (l.getD k 0) = true ∧ ∀ j, j < k → p (l.getD j 0) = false

set_option maxRecDepth 100000 in
set_option maxHeartbeats 800000 in
theorem indexFunc_calls {S : Nat → Prop} {w : World} {v : Value} {l : List Int} (h : IntsAt w v l) {k : Nat} {caps : Array Value} {p : Int → Bool} (hp : PredOn S w k caps p) (ek : EntersF k) (hl : l.length ≤ 100000) :
    Calls Try.prog 147 #[v, .func (.func k) #[] caps] w fun e w' => ∃ r, e = .returned (I r) ∧ IdxOf p l r ∧ Below w.heap.size w w' := by
  obtain ⟨ao, cap, rfl, hc1, hc2, hsl⟩ := h.open
  obtain ⟨n, hn⟩ : ∃ n, l.length = n := ⟨_, rfl⟩
  have HI := Lib.hid h
  have HSL := Lib.hid hsl
  have HN := Lib.hid hn
  have HP := Lib.hid hp
  rw [hn] at hc1 HI HSL hl ⊢
  unfold maxLen at hc2
  clear h hsl hn hp
  go_enter Try.func147, Try.ntmps147
  go_wp2
  go_loopw [8] (fun c wr => ∃ q : Nat, c = I q ∧ q ≤ n ∧ (∀ j, j < q → p (l.getD j 0) = false) ∧ Below w.heap.size w wr) (fun c _ => n - (intOf c).toNat)
  case atStart => exact ⟨0, rfl, by omega, fun j hj => by omega, Below.refl _ _⟩
  case round =>
    obtain ⟨q, rfl, hq, hall, hbel⟩ := hrel
    have HA := Lib.hid hall
    have HB := Lib.hid hbel
    clear hall hbel
    by_cases hlt : q < n
    · obtain ⟨b, off, e⟩ := HSL.out (by omega)
      subst e
      have hcell := (HI.out.below HB.out).cellAt q (by rw [HN.out]; omega)
      obtain ⟨y, hy⟩ : ∃ y, l.getD q 0 = y := ⟨_, rfl⟩
      rw [hy] at hcell
      have HY := Lib.hid hy
      obtain ⟨z, hz⟩ : ∃ z, p y = z := ⟨_, rfl⟩
      have HZ := Lib.hid hz
      have hcall := HP.out wr (Keeps.of_below HB.out) y
      rw [hz] at hcall
      clear hy hz
      cases z
      · go_wp2_with (go_at_fn k; refine hcall.mono ?_; rintro e w1 ⟨rfl, hb1⟩)
        go_roundw
        case rel =>
          refine ⟨q + 1, by go_num, by omega, ?_, Below.step HB.out hb1⟩
          intro j hj
          by_cases e : j = q
          · rw [e, HY.out]; exact HZ.out
          · exact HA.out j (by omega)
        case measure => simp [intOf]; omega
      · go_wp2_with (go_at_fn k; refine hcall.mono ?_; rintro e w1 ⟨rfl, hb1⟩)
        go_ret
        exact ⟨_, rfl, Or.inr ⟨q, rfl, by rw [HN.out]; omega, by rw [HY.out]; exact HZ.out, HA.out⟩, Below.step HB.out hb1⟩
    · have e : q = n := by omega
      subst e
      go_wp2
      go_ret
      exact ⟨_, rfl, Or.inl ⟨rfl, fun j hj => HA.out j (by rw [← HN.out]; exact hj)⟩, HB.out⟩

theorem own_cut {w : World} {base g n cap i : Nat} {c : List Int} (h : w.ownsRow base 3 1 (.slice (some ⟨g, 0, none⟩) n cap) n (ints c)) (hi : i ≤ n) : w.ownsRow base 3 1 (.slice (some ⟨g, 0, none⟩) i cap) i (ints (c.take i)) := by
  obtain ⟨h1, h2⟩ := h
  rcases h2 with ⟨e, _⟩ | ⟨g', cap', cur, e, hb, hg, hc, hm, hs, ht⟩
  · cases e
  · simp only [Value.slice.injEq, Option.some.injEq, Addr.mk.injEq, and_true, true_and] at e
    obtain ⟨rfl, rfl⟩ := e
    have hl : c.length = n := by simpa [ints] using h1
    refine ⟨by simp [ints]; omega, Or.inr ⟨g, cap, cur, rfl, hb, hg, by omega, hm, hs, ?_⟩⟩
    have : (cur.toList.take (n * 1)).take i = (ints c).take i := by rw [ht]
    rw [List.take_take] at this
    rw [show min i (n * 1) = i * 1 by omega] at this
    rw [this, ints, ints, List.map_take]
theorem own_clear {base g cap i : Nat} {xs : List Value} : ∀ (vs : List Value) (o : Nat) (w : World), i ≤ o → w.ownsRow base 3 1 (.slice (some ⟨g, 0, none⟩) i cap) i xs → (w.setCells g o vs).ownsRow base 3 1 (.slice (some ⟨g, 0, none⟩) i cap) i xs
  | [], _, _, _, h => h
  | v :: r, o, w, ho, h => by
    have h1 := (h.stored o v).1
    have e : xs.set o v = xs := List.set_eq_of_length_le (by have := h.1; omega)
    rw [e] at h1
    exact own_clear r (o + 1) _ (by omega) h1
theorem keeps_setCells {g : Nat} : ∀ (vs : List Value) (o : Nat) (w : World), Keeps (fun b => b = g) w (w.setCells g o vs)
  | [], _, w => Keeps.refl _ w
  | v :: r, o, w => Keeps.trans (S := fun b => b = g) (Keeps.set (S := fun b => b = g) (p := ⟨g, o, none⟩) rfl v) (keeps_setCells r (o + 1) _)

/-- What is known in the middle of the deleting. -/
structure DelInv (p : Int → Bool) (l c : List Int) (i j : Nat) : Prop where
  len : c.length = l.length
  lt : i < j
  le : j ≤ l.length
  low : c.take i = (l.take j).filter fun x => !p x
  high : c.drop j = l.drop j
theorem take_succ_getD {l : List Int} {k : Nat} (hk : k < l.length) : l.take (k + 1) = l.take k ++ [l.getD k 0] := by
  rw [List.take_succ_eq_append_getElem hk, List.getD_eq_getElem?_getD, List.getElem?_eq_getElem hk, Option.getD_some]
theorem filter_none {p : Int → Bool} {l : List Int} {k : Nat} (hk : k ≤ l.length) (h : ∀ j, j < k → p (l.getD j 0) = false) : (l.take k).filter (fun x => !p x) = l.take k := by
  induction k with
  | zero => simp
  | succ k ih =>
    rw [take_succ_getD (by omega), List.filter_append, ih (by omega) (fun j hj => h j (by omega))]
    simp only [List.filter_cons, List.filter_nil, h k (by omega)]
    rfl
theorem DelInv.start {p : Int → Bool} {l : List Int} {k : Nat} (hk : k < l.length) (h : ∀ j, j < k → p (l.getD j 0) = false) (hp : p (l.getD k 0) = true) : DelInv p l l k (k + 1) := by
  refine ⟨rfl, by omega, by omega, ?_, rfl⟩
  rw [take_succ_getD hk, List.filter_append, filter_none (by omega) h]
  simp only [List.filter_cons, List.filter_nil, hp]
  simp
theorem DelInv.skip {p : Int → Bool} {l c : List Int} {i j : Nat} (h : DelInv p l c i j) (hj : j < l.length) (hp : p (l.getD j 0) = true) : DelInv p l c i (j + 1) := by
  refine ⟨h.len, by have := h.lt; omega, by omega, ?_, ?_⟩
  · rw [take_succ_getD hj, List.filter_append, h.low]
    simp only [List.filter_cons, List.filter_nil, hp]
    simp
  · rw [← List.drop_drop, ← List.drop_drop, h.high]
theorem DelInv.keep {p : Int → Bool} {l c : List Int} {i j : Nat} (h : DelInv p l c i j) (hj : j < l.length) (hp : p (l.getD j 0) = false) : DelInv p l (c.set i (l.getD j 0)) (i + 1) (j + 1) := by
  have hi := h.lt
  have hlen := h.len
  refine ⟨by simp [hlen], by omega, by omega, ?_, ?_⟩
  · rw [take_succ_getD hj, List.filter_append, take_succ_getD (by simp; omega), List.take_set_of_le (by omega), h.low]
    simp only [List.filter_cons, List.filter_nil, hp]
    simp [List.getD, show i < c.length by omega]
  · rw [List.drop_set_of_lt (by omega), ← List.drop_drop, ← List.drop_drop, h.high]
theorem DelInv.at {p : Int → Bool} {l c : List Int} {i j : Nat} (h : DelInv p l c i j) (hj : j < l.length) : c.getD j 0 = l.getD j 0 := by
  have q : (c.drop j)[0]? = (l.drop j)[0]? := by rw [h.high]
  simp only [List.getElem?_drop, Nat.add_zero] at q
  simp only [List.getD_eq_getElem?_getD, q]
theorem DelInv.done {p : Int → Bool} {l c : List Int} {i : Nat} (h : DelInv p l c i l.length) : c.take i = l.filter fun x => !p x := by
  rw [h.low, List.take_length]

theorem ints_get {c : List Int} {j : Nat} (hj : j < c.length) : (ints c)[j]? = some (I (c.getD j 0)) := by
  simp [ints, List.getD, List.getElem?_map, List.getElem?_eq_getElem hj]
theorem ints_set (c : List Int) (i : Nat) (y : Int) : (ints c).set i (I y) = ints (c.set i y) := by simp [ints, List.map_set]

set_option maxRecDepth 100000 in
set_option maxHeartbeats 1600000 in
theorem deleteFunc_some {w : World} {base g cap : Nat} {l : List Int} (h : OwnI w base (.slice (some ⟨g, 0, none⟩) l.length cap) l) {k : Nat} {caps : Array Value} {p : Int → Bool} (hp : PredOn (fun b => b = g) w k caps p) (ek : EntersF k) (hl : l.length ≤ 100000) :
    Calls Try.prog 134 #[.slice (some ⟨g, 0, none⟩) l.length cap, .func (.func k) #[] caps] w fun e w' => e = .returned (.slice (some ⟨g, 0, none⟩) (l.filter fun x => !p x).length cap) ∧ OwnI w' base (.slice (some ⟨g, 0, none⟩) (l.filter fun x => !p x).length cap) (l.filter fun x => !p x) ∧ Keeps (fun b => b = g) w w' := by
  have hint := h.ints
  obtain ⟨_, _, e, hc1, hc2, _⟩ := hint.open
  simp only [Value.slice.injEq] at e
  obtain ⟨rfl, _, rfl⟩ := e
  obtain ⟨r, hr⟩ : ∃ r, (l.filter fun x => !p x) = r := ⟨_, rfl⟩
  rw [hr]
  obtain ⟨n, hn⟩ : ∃ n, l.length = n := ⟨_, rfl⟩
  have H := Lib.hid h
  have HI := Lib.hid hint
  have HN := Lib.hid hn
  have HP := Lib.hid hp
  have HR := Lib.hid hr
  have HL := Lib.hid hl
  rw [hn] at hc1 HI H hl ⊢
  unfold maxLen at hc2
  clear h hn hp hint hr
  go_enter Try.func134, Try.ntmps134
  go_wp2_with fail
  refine (indexFunc_calls HI.out HP.out ek HL.out).mono ?_
  rintro e w1 ⟨r0, rfl, hix, hb1⟩
  have HB1 := Lib.hid hb1
  clear hb1
  rcases hix with ⟨rfl, hall⟩ | ⟨k0, rfl, hk0, hpk, hall⟩
  · have hf := filter_none (Nat.le_refl _) hall
    rw [List.take_length, HR.out] at hf
    have HF := Lib.hid hf
    clear hall hf
    go_wp2
    go_ret
    rw [HF.out, HN.out]
    exact ⟨rfl, ownI_below H.out HB1.out, Keeps.of_below HB1.out⟩
  · have HD := Lib.hid (DelInv.start hk0 hall hpk)
    rw [HN.out] at hk0
    have hne1 : ((k0 : Int) == -1) = false := beq_eq_false_iff_ne.2 (by omega)
    clear hall hpk
    go_wp2
    go_loopw [5, 6, 7] (fun a c _ wr => ∃ (i j : Nat) (cs : List Int), a = I i ∧ c = I j ∧ i < j ∧ j ≤ n ∧ DelInv p l cs i j ∧ wr.ownsRow base 3 1 (.slice (some ⟨g, 0, none⟩) n cap) n (ints cs) ∧ Keeps (fun b => b = g) w wr) (fun _ c _ _ => n - (intOf c).toNat)
    case atStart => exact ⟨k0, k0 + 1, l, rfl, by go_num, by omega, by omega, HD.out, by have := ownI_below H.out HB1.out; unfold OwnI at this; rw [HN.out] at this; exact this, Keeps.of_below HB1.out⟩
    case round =>
      obtain ⟨i, j, cs, rfl, rfl, hij, hj, hinv, hown, hkp⟩ := hrel
      have HV := Lib.hid hinv
      have HO := Lib.hid hown
      have HK := Lib.hid hkp
      clear hinv hown hkp
      have hcs : cs.length = n := by rw [HV.out.len, HN.out]
      have hij' : i < cs.length := by omega
      have ci : wr.cell? ⟨g, i, none⟩ = some (I (cs.getD i 0)) := by rw [HO.out.cellAt i (by omega)]; exact ints_get hij'
      have fi : wr.frozen? ⟨g, i, none⟩ = false := HO.out.frozenAt i
      have HC := Lib.hid hcs
      obtain ⟨old, ho⟩ : ∃ old, cs.getD i 0 = old := ⟨_, rfl⟩
      rw [ho] at ci
      clear hcs hij' ho
      by_cases hlt : j < n
      · have hlt' : j < l.length := by rw [HN.out]; exact hlt
        have cj : wr.cell? ⟨g, j, none⟩ = some (I (l.getD j 0)) := by
          rw [HO.out.cellAt j (by omega), ints_get (by rw [HC.out]; omega), HV.out.at hlt']
        obtain ⟨y, hy⟩ : ∃ y, l.getD j 0 = y := ⟨_, rfl⟩
        rw [hy] at cj
        have HY := Lib.hid hy
        obtain ⟨z, hz⟩ : ∃ z, p y = z := ⟨_, rfl⟩
        have HZ := Lib.hid hz
        have hcall := HP.out wr HK.out y
        rw [hz] at hcall
        have HLT := Lib.hid hlt'
        clear hy hz hlt'
        cases z
        · go_wp2_with (go_at_fn k; refine hcall.mono ?_; rintro e w2 ⟨rfl, hb2⟩; have ci2 := (hb2.cell (p := ⟨g, i, none⟩) (World.block_lt_of_cell? _ _ ci)).trans ci; have fi2 := (hb2.frozen (p := ⟨g, i, none⟩) (World.block_lt_of_cell? _ _ ci)).trans fi; have HB2 := Lib.hid hb2; clear hb2)
          go_roundw
          case rel =>
            refine ⟨i + 1, j + 1, cs.set i y, by go_num, by go_num, by omega, by omega, ?_, ?_, (HK.out.trans (Keeps.of_below HB2.out)).trans (Keeps.set (S := fun b => b = g) (p := ⟨g, i, none⟩) rfl _)⟩
            · have := HV.out.keep HLT.out (by rw [HY.out]; exact HZ.out)
              rw [HY.out] at this; exact this
            · rw [← ints_set]; exact ((ownsRow_below HO.out HB2.out).stored i (I y)).1
          case measure => simp [intOf]; omega
        · go_wp2_with (go_at_fn k; refine hcall.mono ?_; rintro e w2 ⟨rfl, hb2⟩)
          go_roundw
          case rel => exact ⟨i, j + 1, cs, rfl, by go_num, by omega, by omega, HV.out.skip HLT.out (by rw [HY.out]; exact HZ.out), ownsRow_below HO.out hb2, HK.out.trans (Keeps.of_below hb2)⟩
          case measure => simp [intOf]; omega
      · have e : j = n := by omega
        subst e
        have hcl : ∀ ty, (Builtin.clear_ #[27] ty #[.slice (some ⟨g, i, none⟩) (j - i) (cap - i)]).run Try.prog wr = .ok (.tuple #[]) (wr.setCells g i (List.replicate (j - i) (I 0))) := fun ty =>
          Lib.run_clear_slice wr _ _ ty _ Try.underlying27 Try.zeroValue3 rfl rfl g i _ _ (by omega) (fun t ht => by rw [HO.out.cellAt (i + t) (by omega), ints_get (by rw [HC.out]; omega)]; rfl) (fun t ht => HO.out.frozenAt _)
        have hcut := own_cut HO.out (i := i) (by omega)
        have hdone : cs.take i = r := by
          have := HV.out
          rw [← HN.out] at this
          rw [← HR.out]; exact this.done
        have hrl : r.length = i := by rw [← hdone, List.length_take, HC.out]; omega
        rw [hdone] at hcut
        have HCUT := Lib.hid hcut
        have HRL := Lib.hid hrl
        clear hcut hdone hrl
        go_wp2
        go_ret
        rw [HRL.out]
        refine ⟨rfl, ?_, HK.out.trans (keeps_setCells _ _ _)⟩
        unfold OwnI
        rw [HRL.out]
        exact own_clear _ _ _ (Nat.le_refl _) HCUT.out

end Go.Proofs.Ytidekbamlnpglaa

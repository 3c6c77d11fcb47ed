/-
  The walks of slot's pick, Slots, Of.
-/
import Derived.Test.YtidekbamlnpglaaSb
namespace Go.Proofs.Ytidekbamlnpglaa
open Go.RowKit Tc

theorem deleteFunc_calls {w : World} {base : Nat} {v : Value} {l : List Int} (h : OwnI w base v l) {k : Nat} {caps : Array Value} {p : Int → Bool} (hp : PredOn (fun q => v.ownBlock = some q) w k caps p) (ek : EntersF k) (hl : l.length ≤ 100000) :
    Calls Try.prog 134 #[v, .func (.func k) #[] caps] w fun e w' => ∃ v', e = .returned v' ∧ OwnI w' base v' (l.filter fun x => !p x) ∧ Keeps (fun q => v.ownBlock = some q) w w' := by
  have h0 := h
  rcases h.2 with ⟨rfl, e⟩ | ⟨g, cap, cur, rfl, hb, hg, _⟩
  · have hl0 : l = [] := List.eq_nil_of_length_eq_zero e
    subst hl0
    have HI := Lib.hid (IntsAt.nil w)
    have HP := Lib.hid hp
    clear h0 h hp hl
    go_enter Try.func134, Try.ntmps134
    go_wp2_with fail
    refine (indexFunc_calls HI.out HP.out ek (by simp)).mono ?_
    rintro e w1 ⟨r0, rfl, hix, hb1⟩
    have hr : r0 = -1 := by
      rcases hix with ⟨e, _⟩ | ⟨k0, _, hk0, _⟩
      · exact e
      · simp at hk0
    subst hr
    clear hix
    go_wp2
    go_ret
    exact ⟨_, rfl, World.ownsRow_nil _ _ _ _, Keeps.of_below hb1⟩
  · refine (deleteFunc_some (p := p) (k := k) (caps := caps) h0 (fun w' hk x => hp w' (hk.mono fun q _ e => by subst e; rfl) x) ek hl).mono ?_
    rintro e w' ⟨rfl, ho, hk⟩
    exact ⟨_, rfl, ho, hk.mono fun q _ e => by subst e; rfl⟩

/-- What a test on nodes answers, in any world that goes on from this one. -/
def IsOn (w : World) (L : Fo) (k : Nat) (caps : Array Value) (p : Int → Bool) : Prop :=
  ∀ w', Below w.heap.size w w' → ∀ (id : Int) (ka : Option Addr) (kc : Nat), there L id = true → Calls Try.prog k (#[I id, ndVal (nd L id) (.slice ka (nd L id).kids.length kc)] ++ caps) w' fun e w'' => e = .returned (.bool (p id)) ∧ Below w'.heap.size w' w''

set_option maxRecDepth 100000 in
set_option maxHeartbeats 800000 in
theorem pick1_calls {w : World} {hb b : Nat} {S : Nat → Prop} {L : Fo} (h : FoAt w hb S L) {k : Nat} {caps : Array Value} {p : Int → Bool} (hp : IsOn w L k caps p) (ek : EntersF k)
    (c0 : w.cell? ⟨b, 0, none⟩ = some (ptr hb)) (c1 : w.cell? ⟨b + 1, 0, none⟩ = some (.func (.func k) #[] caps)) (id : Int) :
    Calls Try.prog 135 #[I id, ptr b, ptr (b + 1)] w fun e w' => e = .returned (.bool (!(there L id && p id))) ∧ Below w.heap.size w w' := by
  have H := Lib.hid h
  have HP := Lib.hid hp
  clear h hp
  have hlt : b + 1 < w.heap.size := World.block_lt_of_cell? w ⟨b + 1, 0, none⟩ c1
  cases ht : there L id
  · have HT := Lib.hid ht
    clear ht
    rw [Bool.false_and, Bool.not_false]
    go_enter Try.func135, Try.ntmps135
    go_wp2_with fail
    refine (node_calls H.out id).mono ?_
    rw [HT.out]
    rintro e w1 ⟨ka, kc, rfl, _, hb1⟩
    go_wp2
    go_ret
    exact ⟨rfl, Below.step hb1 (below1 _ _)⟩
  · have HT := Lib.hid ht
    clear ht
    obtain ⟨z, hz⟩ : ∃ z, p id = z := ⟨_, rfl⟩
    have HZ := Lib.hid hz
    rw [Bool.true_and, hz]
    clear hz
    go_enter Try.func135, Try.ntmps135
    go_wp2_with fail
    refine (node_calls H.out id).mono ?_
    rw [HT.out]
    rintro e w1 ⟨ka, kc, rfl, _, hb1⟩
    have HB1 := Lib.hid hb1
    have d1 := (hb1.cell (p := ⟨b + 1, 0, none⟩) hlt).trans c1
    have hw1 := hb1.size
    have hlt1 : b + 1 < w1.heap.size := by omega
    clear hb1
    go_wp2_with (go_at_fn k; refine (HP.out _ (Below.step HB1.out (below1 _ _)) id ka kc HT.out).mono ?_; rw [HZ.out]; rintro e w2 ⟨rfl, hb2⟩; have HB2 := Lib.hid hb2; clear hb2)
    go_ret
    refine ⟨by cases z <;> rfl, Below.step (Below.step HB1.out (below1 _ _)) HB2.out⟩

theorem enP : EntersF 135 := Go.Proofs.enters_of Try.func135 (by kernel_rfl) rfl

set_option maxRecDepth 100000 in
set_option maxHeartbeats 800000 in
theorem pick_calls {w : World} {hb : Nat} {S : Nat → Prop} {L : Fo} (h : FoAt w hb S L) {k : Nat} {caps : Array Value} {p : Int → Bool} (hp : IsOn w L k caps p) (ek : EntersF k) {v : Value} {l : List Int} (hv : IntsAt w v l) (hl : l.length ≤ 1000) :
    Calls Try.prog 92 #[ptr hb, v, .func (.func k) #[] caps] w fun e w' => ∃ v', e = .returned v' ∧ OwnI w' w.heap.size v' (l.filter fun x => there L x && p x) ∧ Below w.heap.size w w' := by
  have H := Lib.hid h
  have HP := Lib.hid hp
  have HV := Lib.hid hv
  have HL := Lib.hid hl
  have hmf : ∀ (fn : Fn) (first cap : Array Value) (w : World), (Instr.makeFunc fn first cap).run Try.prog w = .ok (.func fn first cap) w := fun _ _ _ _ => rfl
  clear h hp hv hl
  go_enter Try.func92, Try.ntmps92
  go_wp2_with fail
  refine (clone_calls (HV.out.below (Below.step (below1 _ _) (below1 _ _))) (by have := HL.out; omega)).mono ?_
  rintro e w1 ⟨v1, rfl, ho, hb1⟩
  have HO := Lib.hid ho
  have HB1 := Lib.hid hb1
  clear ho hb1
  have hpred : PredOn (fun q => v1.ownBlock = some q) w1 135 #[ptr w.heap.size, ptr (w.heap.size + 1)] (fun id => !(there L id && p id)) := by
    intro w' hk x
    have hge : ∀ q, v1.ownBlock = some q → w.heap.size + 2 ≤ q := fun q e => by have := (HO.out.lt q e).1; simpa using this
    have hs1 := HB1.out.size
    simp at hs1
    have hb1 : Below (w.heap.size + 2) ((w.alloc (.cells #[ptr hb] 25)).alloc _) w' := (HB1.out.mono (by simp)).trans (hk.below (by omega) hge)
    have hb0 : Below w.heap.size w w' := (Below.step (below1 _ _) (below1 _ _)).trans (hb1.mono (by omega))
    refine pick1_calls (H.out.below hb0) (fun w2 hb2 => HP.out w2 (hb0.trans (hb2.mono hb0.size))) ek ?_ ?_ x
    · exact (hb1.cell (p := ⟨w.heap.size, 0, none⟩) (by simp)).trans (((below1 _ _).cell (p := ⟨w.heap.size, 0, none⟩) (by simp)).trans (World.cell?_alloc_at _ _ _ _ rfl))
    · refine (hb1.cell (p := ⟨w.heap.size + 1, 0, none⟩) (by simp)).trans ((World.cell?_alloc_at _ _ _ _ (by simp)).trans ?_)
      rfl
  have HPR := Lib.hid hpred
  clear hpred
  go_wp2_with fail
  refine (deleteFunc_calls HO.out HPR.out enP (by have := HL.out; omega)).mono ?_
  rintro e w2 ⟨v2, rfl, ho2, hk2⟩
  have HO2 := Lib.hid ho2
  have HK2 := Lib.hid hk2
  clear ho2 hk2
  go_wp2
  go_ret
  have e : (l.filter fun x => !!(there L x && p x)) = l.filter fun x => there L x && p x := by simp
  rw [← e]
  have hge : ∀ q, v1.ownBlock = some q → w.heap.size + 2 ≤ q := fun q e => by have := (HO.out.lt q e).1; simpa using this
  have hs1 := HB1.out.size
  simp at hs1
  exact ⟨v2, rfl, ownsRow_base HO2.out (by simp; omega), (Below.step (Below.step (below1 _ _) (below1 _ _)) HB1.out).trans (HK2.out.below (by omega) fun q e => by have := hge q e; omega)⟩

end Go.Proofs.Ytidekbamlnpglaa

/-
  The plain forest: what makes and changes it, and what always holds of it. No program in sight.
-/
import Derived.Test.YtidekbamlnpglaaPa
namespace Tc

theorem nodup_len {n : Nat} {l : List Int} (hd : l.Nodup) (hb : ∀ x, x ∈ l → 1 ≤ x ∧ x ≤ (n : Int)) : l.length ≤ n := by
  refine Classical.byContradiction fun hlt => ?_
  obtain ⟨i, j, hij, hj, e⟩ := pigeon n (fun i => (l.getD i 0 - 1).toNat) (by
    intro i hi
    have hi' : i < l.length := by omega
    have := hb l[i] (List.getElem_mem hi')
    show (l.getD i 0 - 1).toNat < n
    rw [List.getD_eq_getElem?_getD, List.getElem?_eq_getElem hi', Option.getD_some]; omega)
  have hi' : i < l.length := by omega
  have hj' : j < l.length := by omega
  have h1 := hb l[i] (List.getElem_mem hi')
  have h2 := hb l[j] (List.getElem_mem hj')
  have e : (l.getD i 0 - 1).toNat = (l.getD j 0 - 1).toNat := e
  rw [List.getD_eq_getElem?_getD, List.getElem?_eq_getElem hi', Option.getD_some, List.getD_eq_getElem?_getD, List.getElem?_eq_getElem hj', Option.getD_some] at e
  have e' : l[i] = l[j] := by omega
  have := (List.getElem_inj hd).1 e'
  omega

def mapN (L : Fo) (f : Int → Nd → Nd) : Fo := L.mapIdx fun i x => f ((i : Int) + 1) x
@[simp] theorem length_mapN (L : Fo) (f : Int → Nd → Nd) : (mapN L f).length = L.length := by simp [mapN]
@[simp] theorem there_mapN (L : Fo) (f : Int → Nd → Nd) (id : Int) : there (mapN L f) id = there L id := by simp [there]
theorem nd_mapN {L : Fo} {f : Int → Nd → Nd} {id : Int} (h : there L id = true) : nd (mapN L f) id = f id (nd L id) := by
  have h' := there_iff.1 h
  obtain ⟨i, rfl⟩ : ∃ i : Nat, id = (i : Int) + 1 := ⟨(id - 1).toNat, by omega⟩
  rw [nd_nat i (by simp; omega), nd_nat i (by omega)]
  simp [mapN]
theorem nd_mapN_not {L : Fo} {f : Int → Nd → Nd} {id : Int} (h : there L id = false) : nd (mapN L f) id = nd L id := by
  rw [nd_not h, nd_not (by simpa using h)]
theorem nd_mapN_of {L : Fo} {f : Int → Nd → Nd} {id : Int} (hf : f id {} = {}) : nd (mapN L f) id = f id (nd L id) := by
  by_cases h : there L id = true
  · exact nd_mapN h
  · have h : there L id = false := by simpa using h
    rw [nd_mapN_not h, nd_not h, hf]
/-- One node changed. -/
def updN (L : Fo) (a : Int) (g : Nd → Nd) : Fo := mapN L fun i x => if i = a then g x else x
theorem nd_updN {L : Fo} {a : Int} {g : Nd → Nd} {id : Int} (h : there L a = true) : nd (updN L a g) id = if id = a then g (nd L id) else nd L id := by
  by_cases ht : there L id = true
  · exact nd_mapN ht
  · have ht : there L id = false := by simpa using ht
    have : id ≠ a := fun e => by rw [e, h] at ht; cases ht
    rw [if_neg this]; exact nd_mapN_not ht

/-! ## Words -/
def chB (c : UInt8) : Bool := (97 ≤ c && c ≤ 122) || (48 ≤ c && c ≤ 57)
def wordB (s : ByteArray) : Bool := decide (0 < s.size) && decide (s.size ≤ 8) && s.data.toList.all chB
def namedB (s : ByteArray) : Bool := decide (s.size = 0) || wordB s

/-! ## The calls -/
/-- May a node be made? The error's number. -/
def mkE (x : Nd) : Int :=
  if x.kind < 1 ∨ x.kind > 4 then 2
  else if (x.kind = 3 ∧ ¬ (x.mode = 1 ∨ x.mode = 2)) ∨ (x.kind ≠ 3 ∧ x.mode ≠ 0) then 1
  else if ((x.slot = true ∨ x.want.size ≠ 0) ∧ x.kind ≠ 2) ∨ (x.name.size ≠ 0 ∧ x.slot = false) ∨ namedB x.name = false ∨ namedB x.want = false then 1
  else 0
def fresh (x : Nd) : Nd := { kind := x.kind, mode := x.mode, slot := x.slot, name := x.name, want := x.want }
def mk (L : Fo) (x : Nd) : Fo × Int × Int :=
  if mkE x ≠ 0 then (L, 0, mkE x) else if 128 ≤ L.length then (L, 0, 9) else (L ++ [fresh x], (L.length : Int) + 1, 0)

def badKid1 (L : Fo) (kids : List Int) : Bool := !(kids.all (there L)) || !decide kids.Nodup
def badKid2 (L : Fo) (p : Int) (k : Int) : Bool :=
  decide ((nd L k).kind = 1) || decide ((nd L k).kind = 3) || (over L p).contains k || (decide (par L k ≠ 0) && decide (par L k ≠ p))
def putE (L : Fo) (p : Int) (kids : List Int) : Int :=
  if there L p = false ∨ badKid1 L kids = true then 1 else if kids.any (badKid2 L p) = true then 3 else 0
def putL (L : Fo) (p : Int) (kids : List Int) : Fo :=
  mapN L fun i x => { x with parent := if i ∈ kids then p else if x.parent = p then 0 else x.parent, kids := if i = p then kids else x.kids }
def put (L : Fo) (p : Int) (kids : List Int) : Fo × Int := if putE L p kids ≠ 0 then (L, putE L p kids) else (putL L p kids, 0)

def tieE (L : Fo) (h r : Int) : Int :=
  if there L h = false ∨ there L r = false then 1
  else if (nd L h).kind ≠ 2 ∨ (nd L r).kind ≠ 3 then 2
  else if (nd L h).shadow ≠ 0 ∨ hst L r ≠ 0 then 6
  else if r ∈ over L h then 3 else 0
def tieL (L : Fo) (h r : Int) : Fo := mapN L fun i x => { x with shadow := if i = h then r else x.shadow, host := if i = r then h else x.host }
def tie (L : Fo) (h r : Int) : Fo × Int := if tieE L h r ≠ 0 then (L, tieE L h r) else (tieL L h r, 0)

def nameE (L : Fo) (id : Int) (s : ByteArray) : Int := if there L id = false ∨ namedB s = false then 1 else if (nd L id).slot = false then 2 else 0
def nameF (L : Fo) (id : Int) (s : ByteArray) : Fo × Int := if nameE L id s ≠ 0 then (L, nameE L id s) else (updN L id fun x => { x with name := s }, 0)
def wantE (L : Fo) (id : Int) (s : ByteArray) : Int := if there L id = false ∨ namedB s = false then 1 else if (nd L id).kind ≠ 2 then 2 else 0
def wantF (L : Fo) (id : Int) (s : ByteArray) : Fo × Int := if wantE L id s ≠ 0 then (L, wantE L id s) else (updN L id fun x => { x with want := s }, 0)

/-- A call on a forest. -/
structure Act where
  kind : Int := 0
  a : Int := 0
  b : Int := 0
  s : ByteArray := ByteArray.empty
  n : Nd := {}
  l : List Int := []

def doAct (L : Fo) (x : Act) : Fo :=
  if x.kind = 0 then (mk L x.n).1 else if x.kind = 1 then (put L x.a x.l).1 else if x.kind = 2 then (tie L x.a x.b).1
  else if x.kind = 3 then (nameF L x.a x.s).1 else if x.kind = 4 then (wantF L x.a x.s).1 else L
def mades (acts : List Act) : Fo := acts.foldl doAct []

/-! ## What always holds -/
structure WF (L : Fo) : Prop where
  len : L.length ≤ 128
  ends : Ends L
  par_there : ∀ id, par L id ≠ 0 → there L (par L id) = true
  hst_there : ∀ id, hst L id ≠ 0 → there L (hst L id) = true
  sh_there : ∀ id, (nd L id).shadow ≠ 0 → there L (nd L id).shadow = true
  kids_iff : ∀ p k, k ∈ (nd L p).kids ↔ there L k = true ∧ par L k = p ∧ p ≠ 0
  kids_nodup : ∀ p, (nd L p).kids.Nodup
  rooted : ∀ id, (nd L id).kind = 1 ∨ (nd L id).kind = 3 → par L id = 0
  hst_kind : ∀ id, hst L id ≠ 0 → (nd L id).kind = 3
  sh_kind : ∀ id, (nd L id).shadow ≠ 0 → (nd L id).kind = 2
  tied : ∀ h r, h ≠ 0 → r ≠ 0 → ((nd L h).shadow = r ↔ hst L r = h)
  kinds : ∀ id, there L id = true → 1 ≤ (nd L id).kind ∧ (nd L id).kind ≤ 4
  modes : ∀ id, there L id = true → ((nd L id).kind = 3 → (nd L id).mode = 1 ∨ (nd L id).mode = 2) ∧ ((nd L id).kind ≠ 3 → (nd L id).mode = 0)
  slots : ∀ id, (nd L id).slot = true → (nd L id).kind = 2

theorem WF.empty : WF [] := by
  have hn : ∀ id, nd [] id = {} := fun id => nd_not (by rw [there_false]; simp only [List.length_nil]; omega)
  have ht : ∀ id, there [] id = false := fun id => by rw [there_false]; simp only [List.length_nil]; omega
  refine ⟨by simp, fun id => ⟨0, ht id⟩, ?_, ?_, ?_, ?_, ?_, ?_, ?_, ?_, ?_, ?_, ?_, ?_⟩ <;> intros <;> simp [par, hst, hn, ht] at *
  omega

theorem WF.there_of_kid {L : Fo} (h : WF L) {p k : Int} (hk : k ∈ (nd L p).kids) : there L k = true := ((h.kids_iff p k).1 hk).1
theorem WF.kids_len {L : Fo} (h : WF L) (p : Int) : (nd L p).kids.length ≤ L.length :=
  nodup_len (h.kids_nodup p) fun _ hx => there_iff.1 (h.there_of_kid hx)
theorem WF.par_of_hst {L : Fo} (h : WF L) {id : Int} (hh : hst L id ≠ 0) : par L id = 0 := h.rooted id (Or.inr (h.hst_kind id hh))
theorem WF.over_there {L : Fo} (h : WF L) {id : Int} (ho : over1 L id ≠ 0) : there L (over1 L id) = true := by
  unfold over1 at ho ⊢
  split
  · rename_i hp; rw [if_pos hp] at ho; exact h.hst_there id ho
  · rename_i hp; exact h.par_there id hp

/-- A forest whose steps are another one's, or lead nowhere, or to one place whose chain there does not meet the turned ones: its chains end. -/
theorem Ends.turn {L M : Fo} (hE : Ends L) (K : Int → Prop) (p : Int) (hKL : ∀ y, K y → there L y = true)
    (hs : ∀ id, there M id = true → ¬ K id → (there L id = true ∧ over1 M id = over1 L id) ∨ over1 M id = 0)
    (hK : ∀ id, there M id = true → K id → over1 M id = p) (hp : ∀ y, y ∈ over L p → ¬ K y) : Ends M := by
  have one : ∀ y, over1 M y = 0 → ∃ k, endsIn (there M) (over1 M) k y := fun y h => ⟨1, Or.inr (by rw [h]; exact there_zero M)⟩
  have non : ∀ y, there L y = false → ∃ k, endsIn (there M) (over1 M) k y := by
    intro y hy
    cases hm : there M y with
    | false => exact ⟨0, hm⟩
    | true =>
      rcases hs y hm (fun hk => by rw [hKL y hk] at hy; cases hy) with h | h
      · rw [h.1] at hy; cases hy
      · exact one y h
  have hp' : ∀ y, (there L y = true → y ∈ over L p) → ∃ k, endsIn (there M) (over1 M) k y := by
    refine over_ind hE (P := fun y => (there L y = true → y ∈ over L p) → ∃ k, endsIn (there M) (over1 M) k y) (fun y hy _ => non y hy) ?_
    intro y hy ih hmem
    have hmem := hmem hy
    cases hm : there M y with
    | false => exact ⟨0, hm⟩
    | true =>
      rcases hs y hm (hp y hmem) with h | h
      · obtain ⟨k, hk⟩ := ih (fun ht => by
          have := over_suffix hE hmem
          rw [over_cons hE hy] at this
          exact this.subset (List.mem_cons_of_mem _ (mem_over_self hE ht)))
        exact ⟨k + 1, Or.inr (by rw [h.2]; exact hk)⟩
      · exact one y h
  refine over_ind hE (P := fun y => ∃ k, endsIn (there M) (over1 M) k y) non ?_
  intro y hy ⟨k, hk⟩
  cases hm : there M y with
  | false => exact ⟨0, hm⟩
  | true =>
    by_cases hKy : K y
    · obtain ⟨j, hj⟩ := hp' p (fun ht => mem_over_self hE ht)
      exact ⟨j + 1, Or.inr (by rw [hK y hm hKy]; exact hj)⟩
    · rcases hs y hm hKy with h | h
      · exact ⟨k + 1, Or.inr (by rw [h.2]; exact hk)⟩
      · exact one y h

/-! ## Make -/
theorem nd_snoc (L : Fo) (y : Nd) (id : Int) : nd (L ++ [y]) id = if id = (L.length : Int) + 1 then y else nd L id := by
  unfold nd
  by_cases h1 : 1 ≤ id
  · rw [if_pos h1, if_pos h1]
    split
    · rename_i e
      rw [List.getD_eq_getElem?_getD, show (id - 1).toNat = L.length from by omega, List.getElem?_append_right (Nat.le_refl _)]; simp
    · rename_i e
      by_cases h2 : (id - 1).toNat < L.length
      · rw [List.getD_eq_getElem?_getD, List.getD_eq_getElem?_getD, List.getElem?_append_left h2]
      · rw [List.getD_eq_getElem?_getD, List.getD_eq_getElem?_getD, List.getElem?_eq_none (by simp; omega), List.getElem?_eq_none (by omega)]
  · rw [if_neg h1, if_neg h1, if_neg (by omega)]
theorem there_snoc (L : Fo) (y : Nd) (id : Int) : there (L ++ [y]) id = true ↔ there L id = true ∨ id = (L.length : Int) + 1 := by
  rw [there_iff, there_iff, List.length_append, List.length_singleton]; omega

theorem mkE_zero {x : Nd} (h : mkE x = 0) : 1 ≤ x.kind ∧ x.kind ≤ 4 ∧ (x.kind = 3 → x.mode = 1 ∨ x.mode = 2) ∧ (x.kind ≠ 3 → x.mode = 0) ∧ (x.slot = true → x.kind = 2) := by
  unfold mkE at h
  split at h
  · omega
  · rename_i h1
    split at h
    · omega
    · rename_i h2
      split at h
      · omega
      · rename_i h3
        refine ⟨by omega, by omega, fun hk => ?_, fun hk => ?_, fun hs => ?_⟩
        · exact Classical.byContradiction fun hm => h2 (Or.inl ⟨hk, hm⟩)
        · exact Classical.byContradiction fun hm => h2 (Or.inr ⟨hk, hm⟩)
        · exact Classical.byContradiction fun hm => h3 (Or.inl ⟨Or.inl hs, hm⟩)

theorem WF.snoc {L : Fo} (h : WF L) {x : Nd} (hx : mkE x = 0) (hl : L.length < 128) : WF (L ++ [fresh x]) := by
  obtain ⟨k1, k2, k3, k4, k5⟩ := mkE_zero hx
  have hnew : there L ((L.length : Int) + 1) = false := by rw [there_false]; omega
  have hnn := nd_not hnew
  have hpar : ∀ id, par (L ++ [fresh x]) id = par L id := fun id => by
    show (nd _ _).parent = (nd _ _).parent
    rw [nd_snoc]; split
    · rename_i e; rw [e, hnn]; rfl
    · rfl
  have hhst : ∀ id, hst (L ++ [fresh x]) id = hst L id := fun id => by
    show (nd _ _).host = (nd _ _).host
    rw [nd_snoc]; split
    · rename_i e; rw [e, hnn]; rfl
    · rfl
  have hsh : ∀ id, (nd (L ++ [fresh x]) id).shadow = (nd L id).shadow := fun id => by
    rw [nd_snoc]; split
    · rename_i e; rw [e, hnn]; rfl
    · rfl
  have hkids : ∀ id, (nd (L ++ [fresh x]) id).kids = (nd L id).kids := fun id => by
    rw [nd_snoc]; split
    · rename_i e; rw [e, hnn]; rfl
    · rfl
  have hover : ∀ id, over1 (L ++ [fresh x]) id = over1 L id := fun id => by unfold over1; rw [hpar, hhst]
  have hup : ∀ id, there L id = true → there (L ++ [fresh x]) id = true := fun id ht => (there_snoc ..).2 (Or.inl ht)
  have hold : ∀ id, there L id = true → id ≠ (L.length : Int) + 1 := fun id ht e => by rw [e, hnew] at ht; cases ht
  have hp0 : par L ((L.length : Int) + 1) = 0 := by show (nd _ _).parent = 0; rw [hnn]
  have hh0 : hst L ((L.length : Int) + 1) = 0 := by show (nd _ _).host = 0; rw [hnn]
  refine ⟨by simp; omega, ?_, ?_, ?_, ?_, ?_, ?_, ?_, ?_, ?_, ?_, ?_, ?_, ?_⟩
  · refine Ends.turn h.ends (fun _ => False) 0 (fun _ hf => hf.elim) ?_ (fun _ _ hf => hf.elim) (fun _ _ hf => hf.elim)
    intro id ht _
    rcases (there_snoc ..).1 ht with ht | rfl
    · exact Or.inl ⟨ht, hover id⟩
    · right; rw [hover]; unfold over1; rw [if_pos hp0, hh0]
  · intro id hp; rw [hpar] at hp ⊢; exact hup _ (h.par_there id hp)
  · intro id hp; rw [hhst] at hp ⊢; exact hup _ (h.hst_there id hp)
  · intro id hp; rw [hsh] at hp ⊢; exact hup _ (h.sh_there id hp)
  · intro p k
    rw [hkids, hpar, h.kids_iff]
    constructor
    · rintro ⟨a, b, c⟩; exact ⟨hup _ a, b, c⟩
    · rintro ⟨a, b, c⟩
      rcases (there_snoc ..).1 a with a | rfl
      · exact ⟨a, b, c⟩
      · rw [hp0] at b; exact absurd b.symm c
  · intro p; rw [hkids]; exact h.kids_nodup p
  · intro id hk
    rw [hpar]
    by_cases e : id = (L.length : Int) + 1
    · rw [e]; exact hp0
    · rw [nd_snoc, if_neg e] at hk; exact h.rooted id hk
  · intro id hh
    rw [hhst] at hh
    rw [nd_snoc, if_neg (fun e => hh (by rw [e]; exact hh0))]
    exact h.hst_kind id hh
  · intro id hh
    rw [hsh] at hh
    rw [nd_snoc, if_neg (fun e => hh (by rw [e, hnn]))]
    exact h.sh_kind id hh
  · intro a b ha hb; rw [hsh, hhst]; exact h.tied a b ha hb
  · intro id ht
    rw [nd_snoc]
    rcases (there_snoc ..).1 ht with ht | rfl
    · rw [if_neg (hold id ht)]; exact h.kinds id ht
    · rw [if_pos rfl]; exact ⟨k1, k2⟩
  · intro id ht
    rw [nd_snoc]
    rcases (there_snoc ..).1 ht with ht | rfl
    · rw [if_neg (hold id ht)]; exact h.modes id ht
    · rw [if_pos rfl]; exact ⟨k3, k4⟩
  · intro id hs
    rw [nd_snoc] at hs ⊢
    split
    · rename_i e; rw [if_pos e] at hs; exact k5 hs
    · rename_i e; rw [if_neg e] at hs; exact h.slots id hs

theorem WF.make {L : Fo} (h : WF L) (x : Nd) : WF (Tc.mk L x).1 := by
  unfold Tc.mk
  split
  · exact h
  · rename_i h1
    split
    · exact h
    · exact h.snoc (by omega) (by omega)

/-! ## Put -/
structure PutOk (L : Fo) (p : Int) (ks : List Int) : Prop where
  there : there L p = true
  kids : ∀ k, k ∈ ks → Tc.there L k = true
  nodup : ks.Nodup
  kind : ∀ k, k ∈ ks → (nd L k).kind ≠ 1 ∧ (nd L k).kind ≠ 3
  over : ∀ k, k ∈ ks → k ∉ over L p
  par : ∀ k, k ∈ ks → Tc.par L k = 0 ∨ Tc.par L k = p

theorem putE_zero {L : Fo} {p : Int} {kids : List Int} (h : putE L p kids = 0) : PutOk L p kids := by
  unfold putE at h
  split at h
  · omega
  · rename_i h1
    split at h
    · omega
    · rename_i h2
      have hb : badKid1 L kids = false := by
        cases hb : badKid1 L kids with
        | false => rfl
        | true => exact absurd (Or.inr hb) h1
      unfold badKid1 at hb
      simp only [Bool.or_eq_false_iff, Bool.not_eq_false', List.all_eq_true, decide_eq_true_eq] at hb
      have h3 : ∀ k, k ∈ kids → badKid2 L p k = false := fun k hk => by
        cases hb : badKid2 L p k with
        | false => rfl
        | true => exact absurd (List.any_eq_true.2 ⟨k, hk, hb⟩) h2
      have h4 : ∀ k, k ∈ kids → ((nd L k).kind ≠ 1 ∧ (nd L k).kind ≠ 3) ∧ k ∉ over L p ∧ (Tc.par L k = 0 ∨ Tc.par L k = p) := fun k hk => by
        have := h3 k hk
        unfold badKid2 at this
        simp only [Bool.or_eq_false_iff, decide_eq_false_iff_not, Bool.and_eq_false_iff] at this
        refine ⟨⟨this.1.1.1, this.1.1.2⟩, ?_, by omega⟩
        intro hm
        have := this.1.2
        rw [List.contains_eq_mem, decide_eq_false_iff_not] at this
        exact this hm
      refine ⟨?_, hb.1, hb.2, fun k hk => (h4 k hk).1, fun k hk => (h4 k hk).2.1, fun k hk => (h4 k hk).2.2⟩
      cases ht : Tc.there L p with
      | true => rfl
      | false => exact absurd (Or.inl ht) h1

theorem nd_putL {L : Fo} {p : Int} {kids : List Int} (hp : there L p = true) (hk : ∀ k, k ∈ kids → there L k = true) (id : Int) :
    nd (putL L p kids) id = { nd L id with parent := if id ∈ kids then p else if par L id = p then 0 else par L id, kids := if id = p then kids else (nd L id).kids } := by
  by_cases ht : there L id = true
  · unfold putL; rw [nd_mapN ht]
  · have ht' : there L id = false := by simpa using ht
    unfold putL; rw [nd_mapN_not ht', nd_not ht']
    rw [if_neg (fun h => ht (hk _ h)), if_neg (fun e : id = p => ht (by rw [e]; exact hp))]
    simp [par, nd_not ht']

theorem WF.putL {L : Fo} (h : WF L) {p : Int} {kids : List Int} (ok : PutOk L p kids) : WF (putL L p kids) := by
  have hp0 : p ≠ 0 := fun e => by have := ok.there; rw [e, there_zero] at this; cases this
  have hnd := nd_putL ok.there ok.kids
  have hth : ∀ id, there (Tc.putL L p kids) id = there L id := fun id => there_mapN _ _ _
  have hpar : ∀ id, Tc.par (Tc.putL L p kids) id = if id ∈ kids then p else if Tc.par L id = p then 0 else Tc.par L id := fun id => by show (nd _ _).parent = _; rw [hnd]
  have hhst : ∀ id, hst (Tc.putL L p kids) id = hst L id := fun id => by show (nd _ _).host = _; rw [hnd]
  have hkind : ∀ id, (nd (Tc.putL L p kids) id).kind = (nd L id).kind := fun id => by rw [hnd]
  have hsh : ∀ id, (nd (Tc.putL L p kids) id).shadow = (nd L id).shadow := fun id => by rw [hnd]
  have hmode : ∀ id, (nd (Tc.putL L p kids) id).mode = (nd L id).mode := fun id => by rw [hnd]
  have hslot : ∀ id, (nd (Tc.putL L p kids) id).slot = (nd L id).slot := fun id => by rw [hnd]
  have hkids : ∀ id, (nd (Tc.putL L p kids) id).kids = if id = p then kids else (nd L id).kids := fun id => by rw [hnd]
  refine ⟨by simp [Tc.putL]; exact h.len, ?_, ?_, ?_, ?_, ?_, ?_, ?_, ?_, ?_, ?_, ?_, ?_, ?_⟩
  · refine Ends.turn h.ends (fun k => k ∈ kids) p (fun y hy => ok.kids y hy) ?_ ?_ (fun y hy hk => ok.over y hk hy)
    · intro id ht hk
      rw [hth] at ht
      have hk : id ∉ kids := hk
      unfold over1; rw [hpar, if_neg hk, hhst]
      by_cases e : Tc.par L id = p
      · right
        rw [if_pos e, if_pos rfl]
        exact Classical.byContradiction fun hh => hp0 (e ▸ h.par_of_hst hh)
      · left; rw [if_neg e]; exact ⟨ht, rfl⟩
    · intro id _ hk
      have hk : id ∈ kids := hk
      unfold over1; rw [hpar, if_pos hk, if_neg hp0]
  · intro id hp
    rw [hth]; rw [hpar] at hp ⊢
    split at hp
    · rename_i e; rw [if_pos e]; exact ok.there
    · rename_i e; rw [if_neg e]
      split at hp
      · exact absurd rfl hp
      · rename_i e2; rw [if_neg e2]; exact h.par_there id hp
  · intro id hp; rw [hth]; rw [hhst] at hp ⊢; exact h.hst_there id hp
  · intro id hp; rw [hth]; rw [hsh] at hp ⊢; exact h.sh_there id hp
  · intro q k
    rw [hkids, hth, hpar]
    by_cases hq : q = p
    · subst hq
      rw [if_pos rfl]
      constructor
      · intro hk; rw [if_pos hk]; exact ⟨ok.kids k hk, rfl, hp0⟩
      · rintro ⟨a, b, c⟩
        exact Classical.byContradiction fun hk => by
          rw [if_neg hk] at b
          split at b
          · exact c b.symm
          · rename_i e; exact e b
    · rw [if_neg hq, h.kids_iff]
      by_cases hk : k ∈ kids
      · rw [if_pos hk]
        have := ok.par k hk
        constructor
        · rintro ⟨a, b, c⟩; omega
        · rintro ⟨a, b, c⟩; exact absurd b.symm hq
      · rw [if_neg hk]
        by_cases e : Tc.par L k = p
        · rw [if_pos e]; constructor <;> rintro ⟨a, b, c⟩ <;> omega
        · rw [if_neg e]
  · intro q; rw [hkids]; split
    · exact ok.nodup
    · exact h.kids_nodup q
  · intro id hk
    rw [hkind] at hk; rw [hpar]
    have hr := h.rooted id hk
    rw [if_neg (fun hm => by have := ok.kind id hm; omega), hr]; simp
  · intro id hh; rw [hhst] at hh; rw [hkind]; exact h.hst_kind id hh
  · intro id hh; rw [hsh] at hh; rw [hkind]; exact h.sh_kind id hh
  · intro a b ha hb; rw [hsh, hhst]; exact h.tied a b ha hb
  · intro id ht; rw [hth] at ht; rw [hkind]; exact h.kinds id ht
  · intro id ht; rw [hth] at ht; rw [hkind, hmode]; exact h.modes id ht
  · intro id ht; rw [hslot] at ht; rw [hkind]; exact h.slots id ht

theorem WF.put {L : Fo} (h : WF L) (p : Int) (kids : List Int) : WF (put L p kids).1 := by
  unfold Tc.put
  split
  · exact h
  · rename_i h1; exact h.putL (putE_zero (by omega))

/-! ## Tie -/
structure TieOk (L : Fo) (a r : Int) : Prop where
  thereA : there L a = true
  thereR : there L r = true
  kindA : (nd L a).kind = 2
  kindR : (nd L r).kind = 3
  shadow : (nd L a).shadow = 0
  host : hst L r = 0
  over : r ∉ over L a

theorem tieE_zero {L : Fo} {a r : Int} (h : tieE L a r = 0) : TieOk L a r := by
  unfold tieE at h
  split at h
  · omega
  · rename_i h1
    split at h
    · omega
    · rename_i h2
      split at h
      · omega
      · rename_i h3
        split at h
        · omega
        · rename_i h4
          simp only [not_or, Bool.not_eq_false] at h1
          exact ⟨h1.1, h1.2, by omega, by omega, by omega, by omega, h4⟩

theorem nd_tieL {L : Fo} {a r : Int} (ha : there L a = true) (hr : there L r = true) (id : Int) :
    nd (tieL L a r) id = { nd L id with shadow := if id = a then r else (nd L id).shadow, host := if id = r then a else hst L id } := by
  by_cases ht : there L id = true
  · unfold tieL; rw [nd_mapN ht]
  · have ht' : there L id = false := by simpa using ht
    unfold tieL; rw [nd_mapN_not ht', nd_not ht']
    rw [if_neg (fun e : id = a => ht (by rw [e]; exact ha)), if_neg (fun e : id = r => ht (by rw [e]; exact hr))]
    simp [hst, nd_not ht']

theorem WF.tieL {L : Fo} (h : WF L) {a r : Int} (ok : TieOk L a r) : WF (tieL L a r) := by
  have ha0 : a ≠ 0 := fun e => by have := ok.thereA; rw [e, there_zero] at this; cases this
  have hr0 : r ≠ 0 := fun e => by have := ok.thereR; rw [e, there_zero] at this; cases this
  have hnd := nd_tieL ok.thereA ok.thereR
  have hth : ∀ id, there (Tc.tieL L a r) id = there L id := fun id => there_mapN _ _ _
  have hpar : ∀ id, par (Tc.tieL L a r) id = par L id := fun id => by show (nd _ _).parent = _; rw [hnd]
  have hhst : ∀ id, hst (Tc.tieL L a r) id = if id = r then a else hst L id := fun id => by show (nd _ _).host = _; rw [hnd]
  have hkind : ∀ id, (nd (Tc.tieL L a r) id).kind = (nd L id).kind := fun id => by rw [hnd]
  have hsh : ∀ id, (nd (Tc.tieL L a r) id).shadow = if id = a then r else (nd L id).shadow := fun id => by rw [hnd]
  have hmode : ∀ id, (nd (Tc.tieL L a r) id).mode = (nd L id).mode := fun id => by rw [hnd]
  have hslot : ∀ id, (nd (Tc.tieL L a r) id).slot = (nd L id).slot := fun id => by rw [hnd]
  have hkids : ∀ id, (nd (Tc.tieL L a r) id).kids = (nd L id).kids := fun id => by rw [hnd]
  have hpr : par L r = 0 := h.rooted r (Or.inr ok.kindR)
  refine ⟨by simp [Tc.tieL]; exact h.len, ?_, ?_, ?_, ?_, ?_, ?_, ?_, ?_, ?_, ?_, ?_, ?_, ?_⟩
  · refine Ends.turn h.ends (fun k => k = r) a (fun y hy => by rw [hy]; exact ok.thereR) ?_ ?_ (fun y hy hk => ok.over (by rw [← hk]; exact hy))
    · intro id ht hk
      rw [hth] at ht
      have hk : id ≠ r := hk
      left; refine ⟨ht, ?_⟩
      unfold over1; rw [hpar, hhst, if_neg hk]
    · intro id _ hk
      have hk : id = r := hk
      unfold over1; rw [hk, hpar, if_pos hpr, hhst, if_pos rfl]
  · intro id hp; rw [hth]; rw [hpar] at hp ⊢; exact h.par_there id hp
  · intro id hp
    rw [hth]; rw [hhst] at hp ⊢
    split
    · exact ok.thereA
    · rename_i e; rw [if_neg e] at hp; exact h.hst_there id hp
  · intro id hp
    rw [hth]; rw [hsh] at hp ⊢
    split
    · exact ok.thereR
    · rename_i e; rw [if_neg e] at hp; exact h.sh_there id hp
  · intro p k; rw [hkids, hth, hpar]; exact h.kids_iff p k
  · intro p; rw [hkids]; exact h.kids_nodup p
  · intro id hk; rw [hkind] at hk; rw [hpar]; exact h.rooted id hk
  · intro id hh
    rw [hkind]; rw [hhst] at hh
    by_cases e : id = r
    · rw [e]; exact ok.kindR
    · rw [if_neg e] at hh; exact h.hst_kind id hh
  · intro id hh
    rw [hkind]; rw [hsh] at hh
    by_cases e : id = a
    · rw [e]; exact ok.kindA
    · rw [if_neg e] at hh; exact h.sh_kind id hh
  · intro x y hx hy
    rw [hsh, hhst]
    have t1 := h.tied a y ha0 hy
    have t2 := h.tied x r hx hr0
    have t3 := h.tied x y hx hy
    have e1 := ok.shadow
    have e2 := ok.host
    by_cases ex : x = a
    · by_cases ey : y = r
      · rw [if_pos ex, if_pos ey]; omega
      · rw [if_pos ex, if_neg ey, ex]; omega
    · by_cases ey : y = r
      · rw [if_neg ex, if_pos ey, ey]; omega
      · rw [if_neg ex, if_neg ey]; exact t3
  · intro id ht; rw [hth] at ht; rw [hkind]; exact h.kinds id ht
  · intro id ht; rw [hth] at ht; rw [hkind, hmode]; exact h.modes id ht
  · intro id ht; rw [hslot] at ht; rw [hkind]; exact h.slots id ht

theorem WF.tie {L : Fo} (h : WF L) (a r : Int) : WF (tie L a r).1 := by
  unfold Tc.tie
  split
  · exact h
  · rename_i h1; exact h.tieL (tieE_zero (by omega))

/-! ## Name, Want -/
theorem WF.same {L M : Fo} (h : WF L) (hl : M.length = L.length) (hn : ∀ id, (nd M id).kind = (nd L id).kind ∧ (nd M id).parent = (nd L id).parent ∧ (nd M id).host = (nd L id).host ∧
    (nd M id).shadow = (nd L id).shadow ∧ (nd M id).mode = (nd L id).mode ∧ (nd M id).slot = (nd L id).slot ∧ (nd M id).kids = (nd L id).kids) : WF M := by
  have hth : ∀ id, there M id = there L id := fun id => by unfold there; rw [hl]
  have hpar : ∀ id, par M id = par L id := fun id => (hn id).2.1
  have hhst : ∀ id, hst M id = hst L id := fun id => (hn id).2.2.1
  have hkind := fun id => (hn id).1
  have hsh := fun id => (hn id).2.2.2.1
  have hmode := fun id => (hn id).2.2.2.2.1
  have hslot := fun id => (hn id).2.2.2.2.2.1
  have hkids := fun id => (hn id).2.2.2.2.2.2
  have hov : ∀ id, over1 M id = over1 L id := fun id => by unfold over1; rw [hpar, hhst]
  refine ⟨by rw [hl]; exact h.len, ?_, ?_, ?_, ?_, ?_, ?_, ?_, ?_, ?_, ?_, ?_, ?_, ?_⟩
  · exact Ends.turn h.ends (fun _ => False) 0 (fun _ hf => hf.elim) (fun id ht _ => Or.inl ⟨by rw [← hth]; exact ht, hov id⟩) (fun _ _ hf => hf.elim) (fun _ _ hf => hf.elim)
  · intro id hp; rw [hth]; rw [hpar] at hp ⊢; exact h.par_there id hp
  · intro id hp; rw [hth]; rw [hhst] at hp ⊢; exact h.hst_there id hp
  · intro id hp; rw [hth]; rw [hsh] at hp ⊢; exact h.sh_there id hp
  · intro p k; rw [hkids, hth, hpar]; exact h.kids_iff p k
  · intro p; rw [hkids]; exact h.kids_nodup p
  · intro id hk; rw [hkind] at hk; rw [hpar]; exact h.rooted id hk
  · intro id hh; rw [hhst] at hh; rw [hkind]; exact h.hst_kind id hh
  · intro id hh; rw [hsh] at hh; rw [hkind]; exact h.sh_kind id hh
  · intro a b ha hb; rw [hsh, hhst]; exact h.tied a b ha hb
  · intro id ht; rw [hth] at ht; rw [hkind]; exact h.kinds id ht
  · intro id ht; rw [hth] at ht; rw [hkind, hmode]; exact h.modes id ht
  · intro id ht; rw [hslot] at ht; rw [hkind]; exact h.slots id ht

theorem WF.updN {L : Fo} (h : WF L) {a : Int} (ha : there L a = true) {g : Nd → Nd} (hg : ∀ x, (g x).kind = x.kind ∧ (g x).parent = x.parent ∧ (g x).host = x.host ∧ (g x).shadow = x.shadow ∧ (g x).mode = x.mode ∧ (g x).slot = x.slot ∧ (g x).kids = x.kids) : WF (updN L a g) := by
  refine h.same (by simp [Tc.updN]) fun id => ?_
  rw [nd_updN ha]
  split
  · exact hg _
  · exact ⟨rfl, rfl, rfl, rfl, rfl, rfl, rfl⟩

theorem nameE_zero {L : Fo} {a : Int} {s : ByteArray} (h : nameE L a s = 0) : there L a = true ∧ namedB s = true ∧ (nd L a).slot = true := by
  unfold nameE at h
  split at h
  · omega
  · rename_i h1
    split at h
    · omega
    · rename_i h2
      simp only [not_or, Bool.not_eq_false] at h1 h2
      exact ⟨h1.1, h1.2, h2⟩
theorem wantE_zero {L : Fo} {a : Int} {s : ByteArray} (h : wantE L a s = 0) : there L a = true ∧ namedB s = true ∧ (nd L a).kind = 2 := by
  unfold wantE at h
  split at h
  · omega
  · rename_i h1
    split at h
    · omega
    · rename_i h2
      simp only [not_or, Bool.not_eq_false] at h1
      exact ⟨h1.1, h1.2, by omega⟩
theorem WF.nameF {L : Fo} (h : WF L) (a : Int) (s : ByteArray) : WF (nameF L a s).1 := by
  unfold Tc.nameF
  split
  · exact h
  · rename_i h1; exact h.updN (nameE_zero (s := s) (by omega)).1 fun x => ⟨rfl, rfl, rfl, rfl, rfl, rfl, rfl⟩
theorem WF.wantF {L : Fo} (h : WF L) (a : Int) (s : ByteArray) : WF (wantF L a s).1 := by
  unfold Tc.wantF
  split
  · exact h
  · rename_i h1; exact h.updN (wantE_zero (s := s) (by omega)).1 fun x => ⟨rfl, rfl, rfl, rfl, rfl, rfl, rfl⟩

theorem WF.doAct {L : Fo} (h : WF L) (x : Act) : WF (doAct L x) := by
  unfold Tc.doAct
  split
  · exact h.make _
  · split
    · exact h.put _ _
    · split
      · exact h.tie _ _
      · split
        · exact h.nameF _ _
        · split
          · exact h.wantF _ _
          · exact h
theorem WF.foldAct : ∀ (acts : List Act) {L : Fo}, WF L → WF (acts.foldl Tc.doAct L)
  | [], _, h => h
  | x :: acts, _, h => WF.foldAct acts (h.doAct x)
theorem WF.mades (acts : List Act) : WF (mades acts) := WF.foldAct acts WF.empty

end Tc

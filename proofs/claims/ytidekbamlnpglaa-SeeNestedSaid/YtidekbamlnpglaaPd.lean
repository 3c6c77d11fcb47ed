/-
  The plain forest: Put, as the program does it, step by step.
-/
import Derived.Test.YtidekbamlnpglaaPc
namespace Tc

theorem mapN_mapN (L : Fo) (f g : Int → Nd → Nd) : mapN (mapN L f) g = mapN L fun i x => g i (f i x) := by
  simp [mapN, Function.comp_def]
theorem mapN_congr {L : Fo} {f g : Int → Nd → Nd} (h : ∀ i x, there L i = true → f i x = g i x) : mapN L f = mapN L g := by
  refine fo_ext (by simp) fun i hi => ?_
  have hi : there L i = true := by simpa using hi
  rw [nd_mapN hi, nd_mapN hi, h i _ hi]

def clr (L : Fo) (old : List Int) : Fo := mapN L fun i x => { x with parent := if i ∈ old then 0 else x.parent }
def setp (L : Fo) (p : Int) (ks : List Int) : Fo := mapN L fun i x => { x with parent := if i ∈ ks then p else x.parent }

theorem mem_take_succ {l : List Int} {k : Nat} (hk : k < l.length) (i : Int) : i ∈ l.take (k + 1) ↔ i ∈ l.take k ∨ i = l.getD k 0 := by
  rw [List.take_succ_eq_append_getElem hk, List.mem_append, List.mem_singleton, List.getD_eq_getElem?_getD, List.getElem?_eq_getElem hk, Option.getD_some]

theorem clr_nil (L : Fo) : clr L [] = L := by
  refine fo_ext (by simp [clr]) fun i hi => ?_
  have hi : there L i = true := by simpa [clr] using hi
  unfold clr; rw [nd_mapN hi]; simp
theorem clr_succ (L : Fo) {l : List Int} {k : Nat} (hk : k < l.length) : updN (clr L (l.take k)) (l.getD k 0) (fun x => { x with parent := 0 }) = clr L (l.take (k + 1)) := by
  unfold updN clr
  rw [mapN_mapN]
  refine mapN_congr fun i x _ => ?_
  by_cases e : i = l.getD k 0
  · rw [if_pos e]; simp [(mem_take_succ hk i).2 (Or.inr e)]
  · rw [if_neg e]
    by_cases h : i ∈ l.take k
    · simp [h, (mem_take_succ hk i).2 (Or.inl h)]
    · have : i ∉ l.take (k + 1) := fun h' => ((mem_take_succ hk i).1 h').elim h e
      simp [h, this]
theorem setp_nil (L : Fo) (p : Int) : setp L p [] = L := by
  refine fo_ext (by simp [setp]) fun i hi => ?_
  have hi : there L i = true := by simpa [setp] using hi
  unfold setp; rw [nd_mapN hi]; simp
theorem setp_succ (L : Fo) (p : Int) {l : List Int} {k : Nat} (hk : k < l.length) : updN (setp L p (l.take k)) (l.getD k 0) (fun x => { x with parent := p }) = setp L p (l.take (k + 1)) := by
  unfold updN setp
  rw [mapN_mapN]
  refine mapN_congr fun i x _ => ?_
  by_cases e : i = l.getD k 0
  · rw [if_pos e]; simp [(mem_take_succ hk i).2 (Or.inr e)]
  · rw [if_neg e]
    by_cases h : i ∈ l.take k
    · simp [h, (mem_take_succ hk i).2 (Or.inl h)]
    · have : i ∉ l.take (k + 1) := fun h' => ((mem_take_succ hk i).1 h').elim h e
      simp [h, this]
theorem there_clr (L : Fo) (l : List Int) (i : Int) : there (clr L l) i = there L i := there_mapN _ _ _
theorem there_setp (L : Fo) (p : Int) (l : List Int) (i : Int) : there (setp L p l) i = there L i := there_mapN _ _ _
theorem clr_kids (L : Fo) (l : List Int) (i : Int) : (nd (clr L l) i).kids = (nd L i).kids := by
  by_cases h : there L i = true
  · unfold clr; rw [nd_mapN h]
  · have h : there L i = false := by simpa using h
    unfold clr; rw [nd_mapN_not h]
theorem setp_kids (L : Fo) (p : Int) (l : List Int) (i : Int) : (nd (setp L p l) i).kids = (nd L i).kids := by
  by_cases h : there L i = true
  · unfold setp; rw [nd_mapN h]
  · have h : there L i = false := by simpa using h
    unfold setp; rw [nd_mapN_not h]
theorem putL_steps {L : Fo} (h : WF L) {p : Int} {ks : List Int} (hp : there L p = true) : putL L p ks = updN (setp (clr L (nd L p).kids) p ks) p (fun x => { x with kids := ks }) := by
  have hp0 : p ≠ 0 := fun e => by rw [e, there_zero] at hp; cases hp
  unfold updN setp clr putL
  rw [mapN_mapN, mapN_mapN]
  refine fo_ext (by simp) fun i hi => ?_
  have hi : there L i = true := by simpa using hi
  rw [nd_mapN hi, nd_mapN hi]
  have hk := h.kids_iff p i
  have hk' : i ∈ (nd L p).kids ↔ (nd L i).parent = p := ⟨fun a => (hk.1 a).2.1, fun a => hk.2 ⟨hi, a, hp0⟩⟩
  by_cases e : i = p
  · rw [if_pos e, if_pos e]
    by_cases h1 : i ∈ ks
    · simp [h1]
    · by_cases h2 : (nd L i).parent = p
      · simp [h1, h2, hk'.2 h2]
      · simp [h1, h2, mt hk'.1 h2]
  · rw [if_neg e, if_neg e]
    by_cases h1 : i ∈ ks
    · simp [h1]
    · by_cases h2 : (nd L i).parent = p
      · simp [h1, h2, hk'.2 h2]
      · simp [h1, h2, mt hk'.1 h2]

end Tc

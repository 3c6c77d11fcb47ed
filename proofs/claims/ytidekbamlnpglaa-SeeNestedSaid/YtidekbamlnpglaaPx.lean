/-
  The plain side of walking a path backward.
-/
import Derived.Test.YtidekbamlnpglaaPq
namespace Tc

def lvF (lv : Int) (l : List Sp) : Int := l.foldl (fun v s => v + b2 s.cr - b2 s.cs) lv
theorem lvF_snoc (lv : Int) (l : List Sp) (s : Sp) : lvF lv (l ++ [s]) = lvF lv l + b2 s.cr - b2 s.cs := by simp [lvF]
theorem lvF_bound (l : List Sp) : -(l.length : Int) ≤ lvF 0 l ∧ lvF 0 l ≤ l.length := by
  have key : ∀ (l : List Sp) (v : Int), v - l.length ≤ lvF v l ∧ lvF v l ≤ v + l.length := by
    intro l
    induction l with
    | nil => intro v; simp [lvF]
    | cons s r ih =>
      intro v
      have := ih (v + b2 s.cr - b2 s.cs)
      have e : lvF v (s :: r) = lvF (v + b2 s.cr - b2 s.cs) r := rfl
      rw [e]
      have h1 : 0 ≤ b2 s.cr ∧ b2 s.cr ≤ 1 := by unfold b2; split <;> omega
      have h2 : 0 ≤ b2 s.cs ∧ b2 s.cs ≤ 1 := by unfold b2; split <;> omega
      simp only [List.length_cons]
      omega
  have := key l 0
  omega
theorem placeR_found {node : Int} : ∀ (pre : List Sp) (s : Sp) (r : List Sp) (lv : Int), (∀ t ∈ pre, t.node ≠ node) → s.node = node → placeR node (pre ++ s :: r) lv = some (r.length, lvF lv pre + b2 s.cr)
  | [], s, r, lv, _, hs => by rw [List.nil_append, placeR, if_pos hs]; rfl
  | t :: pre, s, r, lv, hp, hs => by
    rw [List.cons_append, placeR, if_neg (hp t List.mem_cons_self)]
    exact placeR_found pre s r _ (fun u hu => hp u (List.mem_cons_of_mem _ hu)) hs
theorem placeR_none {node : Int} : ∀ (l : List Sp) (lv : Int), (∀ t ∈ l, t.node ≠ node) → placeR node l lv = none
  | [], _, _ => rfl
  | t :: l, lv, hp => by
    rw [placeR, if_neg (hp t List.mem_cons_self)]
    exact placeR_none l _ (fun u hu => hp u (List.mem_cons_of_mem _ hu))

/-- What has come when k rounds are over, of a list gone through backward: places and entries. -/
def comes (P : List Sp) (k : Nat) : List (Nat × Sp) := (List.range k).map fun t => (P.length - 1 - t, P.getD (P.length - 1 - t) {})
theorem comes_succ (P : List Sp) (k : Nat) : comes P (k + 1) = comes P k ++ [(P.length - 1 - k, P.getD (P.length - 1 - k) {})] := by simp [comes, List.range_succ]
theorem comes_length (P : List Sp) (k : Nat) : (comes P k).length = k := by simp [comes]
theorem comes_snd (P : List Sp) {k : Nat} (hk : k ≤ P.length) : (comes P k).map Prod.snd = P.reverse.take k := by
  apply List.ext_getElem
  · simp [comes, hk]
  · intro i h1 h2
    have hi : i < k := by simpa [comes] using h1
    simp only [comes, List.map_map, List.getElem_map, List.getElem_range, Function.comp, List.getElem_take, List.getElem_reverse]
    rw [List.getD_eq_getElem?_getD, List.getElem?_eq_getElem (by omega), Option.getD_some]
/-- It ended: the node isn't in the path. -/
theorem place_done {P : List Sp} {node : Int} (h : ∀ t ∈ (comes P P.length).map Prod.snd, t.node ≠ node) : placeL P node = none := by
  rw [comes_snd P (Nat.le_refl _), List.take_of_length_le (by simp)] at h
  exact placeR_none _ _ h
/-- It was left: there it is. -/
theorem place_stop {P : List Sp} {node : Int} {k : Nat} (hk : k ≤ P.length) {ini : List (Nat × Sp)} {last : Nat × Sp} (he : comes P k = ini ++ [last]) (h : ∀ t ∈ ini.map Prod.snd, t.node ≠ node) (hl : last.2.node = node) :
    placeL P node = some (last.1, lvF 0 (ini.map Prod.snd) + b2 last.2.cr) := by
  have hlen := congrArg List.length he
  rw [comes_length] at hlen
  simp only [List.length_append, List.length_cons, List.length_nil] at hlen
  obtain ⟨j, rfl⟩ : ∃ j, k = j + 1 := ⟨k - 1, by omega⟩
  rw [comes_succ] at he
  obtain ⟨e1, e2⟩ := List.append_inj' he rfl
  have e2 : (P.length - 1 - j, P.getD (P.length - 1 - j) {}) = last := by simpa using e2
  have hs := comes_snd P (k := j) (by omega)
  have hj : j < P.reverse.length := by simp; omega
  have e3 : P.reverse = P.reverse.take j ++ P.reverse[j] :: P.reverse.drop (j + 1) := by
    rw [← List.drop_eq_getElem_cons hj, List.take_append_drop]
  have e4 : P.reverse[j] = last.2 := by
    rw [← e2, List.getElem_reverse]
    simp only [List.getD_eq_getElem?_getD]
    rw [List.getElem?_eq_getElem (by omega), Option.getD_some]
  unfold placeL
  rw [e3, e4, ← hs, e1, placeR_found _ _ _ _ h hl, ← e2]
  simp
  omega
end Tc

/-
  Attaching a shadow root, and what the laws of shadow trees ask.
-/
import Derived.Test.YtidekbamlnpglaaPc
namespace Tc

def shadowN (m : Int) : Nd := { kind := 3, mode := m }
def attach (L : Fo) (h m : Int) : Fo × Int × Int :=
  if there L h = false ∨ (m ≠ 1 ∧ m ≠ 2) then (L, 0, 1)
  else if (nd L h).kind ≠ 2 ∨ (nd L h).shadow ≠ 0 then (L, 0, 5)
  else if (mk L (shadowN m)).2.2 ≠ 0 then (L, 0, (mk L (shadowN m)).2.2)
  else ((tie (mk L (shadowN m)).1 h (mk L (shadowN m)).2.1).1, (mk L (shadowN m)).2.1, (tie (mk L (shadowN m)).1 h (mk L (shadowN m)).2.1).2)
theorem mk_err {L : Fo} {x : Nd} (h : (mk L x).2.2 ≠ 0) : mk L x = (L, 0, (mk L x).2.2) := by
  unfold mk at h ⊢
  split
  · rfl
  · split
    · rfl
    · rename_i h1 h2; rw [if_neg h1, if_neg h2] at h; exact absurd rfl h
theorem WF.attach {L : Fo} (h : WF L) (a m : Int) : WF (attach L a m).1 := by
  unfold Tc.attach
  split
  · exact h
  · split
    · exact h
    · split
      · exact h
      · exact (h.make _).tie _ _

theorem hidden_self {L : Fo} (a : Int) : hidden L a a = false := by
  unfold hidden closeds
  rw [Bool.and_eq_false_iff]
  right
  rw [List.any_eq_false]
  intro r hr
  simp [(List.mem_filter.1 hr).1]
theorem hidden_root {L : Fo} (h : WF L) {a b : Int} (ha : there L a = true) (hb : there L b = true) (hr : root L a ∈ over L b) : hidden L a b = false := by
  rw [hidden_step h ha hb, if_pos (Or.inr hr)]
theorem hidden_some {L : Fo} {a b : Int} (h : hidden L a b = true) : (closeds L a).any (fun r => !decide (r ∈ over L b)) = true := by
  unfold hidden at h
  rw [Bool.and_eq_true] at h
  obtain ⟨r, h1, h2⟩ := List.any_eq_true.1 h.2
  rw [Bool.and_eq_true] at h2
  exact List.any_eq_true.2 ⟨r, h1, h2.2⟩
theorem hidden_nb {L : Fo} {a b : Int} (hb : there L b = false) : hidden L a b = false := by unfold hidden; rw [hb]; rfl

theorem whole_ne {L : Fo} (h : WF L) {a : Int} (ha : there L a = true) : whole L a ≠ 0 := fun e => by
  have := (over_last h ha).1; rw [e, there_zero] at this; cases this
theorem whole_whole {L : Fo} (h : WF L) {a : Int} (ha : there L a = true) : whole L (whole L a) = whole L a := by
  obtain ⟨h1, h2, _⟩ := over_last h ha
  have : over L (whole L a) = [whole L a] := by rw [over_cons h.ends h1, h2, over_not (there_zero L)]
  show (over L (whole L a)).getLastD 0 = _
  rw [this]; rfl

end Tc

/-
  The walks of word.Right, arena.named, arena.right: words, and what a node may be.
-/
import Derived.Test.YtidekbamlnpglaaWb
namespace Go.Proofs.Ytidekbamlnpglaa
open Go.RowKit Tc

/-- The byte at a place, as a number. -/
def bAt (s : ByteArray) (k : Nat) : Nat := (s.data.toList.getD k 0).toNat
theorem bAt_get (s : ByteArray) (k : Nat) (h : k < s.size) : (s[k]'h).toNat = bAt s k := by
  have h' : k < s.data.toList.length := by simpa using h
  unfold bAt
  rw [List.getD_eq_getElem?_getD, List.getElem?_eq_getElem h']
  rfl
def chN (c : Nat) : Bool := (decide (97 ≤ c) && decide (c ≤ 122)) || (decide (48 ≤ c) && decide (c ≤ 57))
theorem chB_chN (c : UInt8) : chB c = chN c.toNat := by
  unfold chB chN
  simp only [UInt8.le_iff_toNat_le]
  rfl
theorem wordB_iff (s : ByteArray) : wordB s = true ↔ 0 < s.size ∧ s.size ≤ 8 ∧ ∀ k, k < s.size → chN (bAt s k) = true := by
  unfold wordB
  simp only [Bool.and_eq_true, decide_eq_true_eq, List.all_eq_true]
  constructor
  · rintro ⟨⟨h1, h2⟩, h3⟩
    refine ⟨h1, h2, fun k hk => ?_⟩
    have hk' : k < s.data.toList.length := by simpa using hk
    have := h3 _ (List.getElem_mem hk')
    rw [chB_chN] at this
    unfold bAt
    rw [List.getD_eq_getElem?_getD, List.getElem?_eq_getElem hk']
    exact this
  · rintro ⟨h1, h2, h3⟩
    refine ⟨⟨h1, h2⟩, fun c hc => ?_⟩
    obtain ⟨k, hk, rfl⟩ := List.getElem_of_mem hc
    have := h3 k (by simpa using hk)
    unfold bAt at this
    rw [List.getD_eq_getElem?_getD, List.getElem?_eq_getElem hk] at this
    rw [chB_chN]; exact this

theorem wordB_false {s : ByteArray} (h : ¬ (0 < s.size ∧ s.size ≤ 8 ∧ ∀ k, k < s.size → chN (bAt s k) = true)) : wordB s = false := by
  cases hw : wordB s with
  | false => rfl
  | true => exact absurd ((wordB_iff s).1 hw) h

set_option maxRecDepth 100000 in
set_option maxHeartbeats 800000 in
theorem word_calls (w : World) (s : ByteArray) :
    Calls Try.prog 145 #[.string s] w fun e w' => e = .returned (.bool (wordB s)) ∧ Below w.heap.size w w' := by
  by_cases h0 : s.size = 0
  · obtain rfl : s = ⟨#[]⟩ := by
      obtain ⟨d⟩ := s
      have : d.size = 0 := h0
      have : d = #[] := Array.eq_empty_of_size_eq_zero this
      rw [this]
    rw [wordB_false (by rintro ⟨h, _⟩; exact absurd h0 (by omega))]
    clear h0
    go_enter Try.func145, Try.ntmps145
    go_wp2
    go_ret
    exact ⟨rfl, Below.refl _ _⟩
  · have hE : s.toList.isEmpty = false := by
      have : s.toList.length = s.size := by rw [ByteArray.toList_eq]; rfl
      cases hl : s.toList with
      | nil => rw [hl] at this; exact absurd this.symm h0
      | cons _ _ => rfl
    have hE2 : ¬ s.toList = [] := fun e => by rw [e] at hE; cases hE
    have hpos : 0 < s.size := by omega
    by_cases h8 : s.size ≤ 8
    · clear h0
      go_enter Try.func145, Try.ntmps145
      go_wp2
      go_loopw [14] (fun _ wr => ∃ k, wr = w.iter s k ∧ k ≤ s.size ∧ ∀ j, j < k → chN (bAt s j) = true) (fun _ wr => s.size - wr.iterPos w.heap.size)
      case atStart => exact ⟨0, rfl, by omega, fun j hj => by omega⟩
      case round =>
        obtain ⟨k, rfl, hk, hall⟩ := hrel
        have HA := Lib.hid hall
        clear hall
        by_cases hlt : k < s.size
        · have hb := bAt_get s k hlt
          obtain ⟨c, hc⟩ : ∃ c, bAt s k = c := ⟨_, rfl⟩
          rw [hc] at hb
          by_cases ha : c < 128
          · have hnx : ∀ ty, (Instr.next (.pointer (some ⟨w.heap.size, 0, none⟩)) true ty).run Try.prog (w.iter s k) = .ok (.tuple #[.bool true, .int .i64 k, .int .i32 (c : Int)]) (w.iter s (k + 1)) := fun ty => by
              rw [run_next_ascii w s k ty hlt (by rw [hb]; exact ha), hb]
            have HC := Lib.hid hc
            clear hb hc
            by_cases hg : chN c = true
            · have hg' : (97 ≤ (c : Int) ∧ (c : Int) ≤ 122) ∨ ((48 ≤ (c : Int) ∧ (c : Int) ≤ 57) ∧ (c : Int) < 97) := by
                unfold chN at hg; simp at hg; omega
              have HG := Lib.hid hg
              clear hg
              rcases hg' with ⟨g1, g2⟩ | ⟨⟨g1, g2⟩, g3⟩
              all_goals
                go_wp2
                go_roundw
                case rel =>
                  refine ⟨k + 1, rfl, by omega, fun j hj => ?_⟩
                  by_cases e : j = k
                  · subst e; rw [HC.out]; exact HG.out
                  · exact HA.out j (by omega)
                case measure => simp; omega
            · have hf : wordB s = false := wordB_false fun ⟨_, _, h⟩ => hg (by rw [← HC.out]; exact h k hlt)
              have HF := Lib.hid hf
              have hg' : (c : Int) < 48 ∨ (57 < (c : Int) ∧ (c : Int) < 97) ∨ 122 < (c : Int) := by
                unfold chN at hg; simp at hg; omega
              clear hg hf
              rcases hg' with g1 | ⟨g1, g2⟩ | g1
              all_goals
                go_wp2
                go_ret
                exact ⟨by rw [HF.out]; rfl, below1 _ _⟩
          · have hf : wordB s = false := wordB_false fun ⟨_, _, h⟩ => by
              have := h k hlt
              rw [hc] at this
              unfold chN at this
              simp at this; omega
            have HF := Lib.hid hf
            have hd := (decode_high s k hlt (by rw [hb]; omega)).1
            obtain ⟨d, hd'⟩ : ∃ d, Utf8.decode s k = d := ⟨_, rfl⟩
            have hnx : ∀ ty, (Instr.next (.pointer (some ⟨w.heap.size, 0, none⟩)) true ty).run Try.prog (w.iter s k) = .ok (.tuple #[.bool true, .int .i64 k, .int .i32 (d.1 : Int)]) (w.iter s (k + d.2)) := fun ty => by
              rw [run_next_any w s k ty hlt, hd']
            rw [hd'] at hd
            clear hf hb hc hd' ha
            have hd2 : 122 < (d.1 : Int) := by omega
            go_wp2
            go_ret
            exact ⟨by rw [HF.out]; rfl, below1 _ _⟩
        · have hnx : ∀ ty, (Instr.next (.pointer (some ⟨w.heap.size, 0, none⟩)) true ty).run Try.prog (w.iter s k) = .ok (.tuple #[.bool false]) (w.iter s k) := fun ty => run_next_end w s k ty hlt
          go_wp2
          go_ret
          refine ⟨?_, below1 _ _⟩
          have : wordB s = true := (wordB_iff s).2 ⟨hpos, h8, fun j hj => HA.out j (by omega)⟩
          rw [this]; rfl
    · rw [wordB_false (by rintro ⟨_, h, _⟩; exact h8 h)]
      have h9 : 8 < (s.size : Int) := by omega
      go_enter Try.func145, Try.ntmps145
      go_wp2
      go_ret
      exact ⟨rfl, Below.refl _ _⟩

set_option maxHeartbeats 400000 in
theorem named_calls (w : World) (s : ByteArray) :
    Calls Try.prog 129 #[.string s] w fun e w' => e = .returned (.bool (namedB s)) ∧ Below w.heap.size w w' := by
  by_cases h0 : s.size = 0
  · obtain rfl : s = ⟨#[]⟩ := by
      obtain ⟨d⟩ := s
      have : d.size = 0 := h0
      have : d = #[] := Array.eq_empty_of_size_eq_zero this
      rw [this]
    have hn : namedB ⟨#[]⟩ = true := rfl
    rw [hn]
    clear h0 hn
    go_enter Try.func129, Try.ntmps129
    go_wp2
    go_ret
    exact ⟨rfl, Below.refl _ _⟩
  · have hE : s.toList.isEmpty = false := by
      have : s.toList.length = s.size := by rw [ByteArray.toList_eq]; rfl
      cases hl : s.toList with
      | nil => rw [hl] at this; exact absurd this.symm h0
      | cons _ _ => rfl
    have hE2 : ¬ s.toList = [] := fun e => by rw [e] at hE; cases hE
    have hn : namedB s = wordB s := by unfold namedB; simp [h0]
    rw [hn]
    clear h0 hn
    go_enter Try.func129, Try.ntmps129
    go_wp2_with (go_at_call 145; refine (word_calls _ s).mono ?_; rintro e w1 ⟨rfl, hb1⟩)
    go_ret
    exact ⟨rfl, hb1⟩

end Go.Proofs.Ytidekbamlnpglaa

/- Where a text is not UTF-8: walked, for a range over a text makes an iterator. -/
import Derived.Test.YtjbkhjjaajhjaaaDoorLib
import Derived.Lib.OthersKept
import Derived.Deep.LoopGhost
import Derived.Lib.TrimU
import Derived.Laws.Strings3
set_option linter.unusedVariables false
set_option linter.unusedSimpArgs false
namespace Go.Proofs.YtjbkhjjaajhjaaaDoor
open Go Go.Abs Go.RowKit

/-- Where a text is not UTF-8; below nought: nowhere. -/
def wroL (s : ByteArray) : Nat → Nat → Int
  | 0, _ => -1
  | f + 1, pos => if pos < s.size then
      if (Utf8.decode s pos).1 = 65533 ∧ (Lib.decodeGo (s.extract pos s.size)).2 < 2 then pos else wroL s f (pos + (Utf8.decode s pos).2)
    else -1
theorem wroL_end (s : ByteArray) (f pos : Nat) (h : ¬ pos < s.size) : wroL s f pos = -1 := by
  cases f <;> simp [wroL, h]
theorem tabs_below {w w' : World} {B : Nat} (h : Lib.Utf8Tabs 0 1 w) (hb : Below B w w') (h1 : 0 < B) (h2 : 1 < B) : Lib.Utf8Tabs 0 1 w' := by
  obtain ⟨a1, a2⟩ := h
  refine ⟨fun c hc => ?_, fun i hi => ?_⟩
  · rw [World.cell?_of_block (hb.block _ h1)]; exact a1 c hc
  · rw [World.cell?_of_block (hb.block _ h2), World.cell?_of_block (hb.block _ h2)]; exact a2 i hi

set_option maxHeartbeats 2000000 in
set_option maxRecDepth 1000000 in
theorem wrong_walk (s : ByteArray) (w : World) (hs : s.size < 4294967296) (hT : Lib.Utf8Tabs 0 1 w) (h1 : 0 < w.heap.size) (h2 : 1 < w.heap.size) :
    Calls Tryd.prog 13 #[.string s] w fun e w' => e = .returned (.int .i64 (wroL s s.size 0)) ∧ Below w.heap.size w w' := by
  go_enter Tryd.func13, Tryd.ntmps13
  go_wp2
  go_loopg [] s.size (fun g wx => ∃ pos : Nat, wx.heap[w.heap.size]? = some (.stringIter s pos) ∧ Below w.heap.size w wx ∧ wroL s g pos = wroL s s.size 0 ∧ s.size ≤ pos + g)
  case atStart => exact ⟨0, World.iter_heap w s 0, (Below.refl _ w).alloc (Nat.le_refl _) _, rfl, by omega⟩
  case round =>
    obtain ⟨pos, hit, hbw, hleft, hfu⟩ := hrel
    have hsz : w.heap.size < wr.heap.size := (Array.getElem?_eq_some_iff.1 hit).1
    by_cases hp : pos < s.size
    · obtain ⟨g, rfl⟩ : ∃ g, gk = g + 1 := ⟨gk - 1, by omega⟩
      have hnx : ∀ ty, (Instr.next (.pointer (some ⟨w.heap.size, 0, none⟩)) true ty).run Tryd.prog wr = _ := fun ty => Lib.run_next_any_at wr w.heap.size s pos ty hit hp
      have hwd := Lib.width_pos s pos
      have hr1 := Lib.rune_le s pos
      obtain ⟨R, hR⟩ : ∃ R, (Utf8.decode s pos).1 = R := ⟨_, rfl⟩
      obtain ⟨K, hK⟩ : ∃ K, (Utf8.decode s pos).2 = K := ⟨_, rfl⟩
      simp only [wroL, hp, if_true, hR, hK] at hleft
      rw [hR, hK] at hnx
      rw [hR] at hr1
      rw [hK] at hwd
      have hit2 := Lib.iterAt_heap wr w.heap.size s pos (pos + K) hit
      have hbw2 := Lib.below_iterAt hbw (k := w.heap.size) (Nat.le_refl _) s (pos + K)
      obtain ⟨W, hWd⟩ : ∃ W, wr.iterAt w.heap.size s (pos + K) = W := ⟨_, rfl⟩
      rw [hWd] at hnx hit2 hbw2
      have cS := Tryd.utf8_DecodeRuneInString (s.extract pos s.size) W (tabs_below hT hbw2 h1 h2)
      have hWs : w.heap.size < W.heap.size := (Array.getElem?_eq_some_iff.1 hit2).1
      obtain ⟨D, hD⟩ : ∃ D, (Lib.decodeGo (s.extract pos s.size)).2 = D := ⟨_, rfl⟩
      rw [hD] at hleft cS
      by_cases hR2 : R = 65533
      · subst hR2
        by_cases hD2 : D < 2
        · rw [if_pos ⟨rfl, hD2⟩] at hleft
          have hD3 : (D : Int) < 2 := by omega
          replace hleft := hleft.symm
          go_wp2_with (go_at_call 18; go_fit cS; rintro e W' ⟨rfl, hb⟩)
          go_ret
          exact ⟨by simp [hleft], hbw2.trans (hb.mono (by omega))⟩
        · rw [if_neg (by omega)] at hleft
          have hD3 : ¬ (D : Int) < 2 := by omega
          go_wp2_with (go_at_call 18; go_fit cS; rintro e W' ⟨rfl, hb⟩)
          go_roundg g
          case measure => omega
          case rel => exact ⟨pos + K, (hb.block w.heap.size hWs).trans hit2, hbw2.trans (hb.mono (by omega)), hleft, by omega⟩
      · rw [if_neg (by omega)] at hleft
        have hR3 : (R : Int) ≠ 65533 := by omega
        go_wp2_with (go_at_call 18; go_fit cS; rintro e W' ⟨rfl, hb⟩)
        go_roundg g
        case measure => omega
        case rel => exact ⟨pos + K, (hb.block w.heap.size hWs).trans hit2, hbw2.trans (hb.mono (by omega)), hleft, by omega⟩
    · have hnx : ∀ ty, (Instr.next (.pointer (some ⟨w.heap.size, 0, none⟩)) true ty).run Tryd.prog wr = _ := fun ty => Lib.run_next_end_at wr w.heap.size s pos ty hit hp
      rw [wroL_end s gk pos hp] at hleft
      go_wp2
      go_ret
      exact ⟨by rw [← hleft] <;> rfl, hbw⟩
end Go.Proofs.YtjbkhjjaajhjaaaDoor

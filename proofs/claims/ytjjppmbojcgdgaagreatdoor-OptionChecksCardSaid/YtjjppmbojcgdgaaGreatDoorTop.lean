/- The world in which a law begins. -/
import Derived.Test.YtjjppmbojcgdgaaGreatDoorJ01
import Derived.Test.YtjjppmbojcgdgaaGreatDoorAbsC
set_option linter.unusedVariables false
set_option linter.unusedSimpArgs false
set_option maxRecDepth 100000
set_option maxHeartbeats 4000000
namespace Go.Proofs.YtjjppmbojcgdgaaGreatDoor
open Go Go.Abs
theorem block_of_cell {W : World} {b off : Nat} {v : Value} (h : W.cell? ⟨b, off, none⟩ = some v) : b < W.heap.size := by
  rcases Nat.lt_or_ge b W.heap.size with h' | h'
  · exact h'
  · simp [World.cell?, Array.getElem?_eq_none h'] at h
theorem rep_of_ints {C : Ctx} : ∀ l : List (IntKind × Int), RepFL C (l.map fun x => .int x.1 x.2) (l.map fun x => Value.int x.1 x.2)
  | [] => by simp [RepFL]
  | x :: l => by simp only [List.map_cons, RepFL]; exact ⟨_, _, rfl, by simp [RepF], rep_of_ints l⟩
def firstL : List (IntKind × Int) := (List.range 256).map fun c => (IntKind.u8, ((Lib.firstT c : Nat) : Int))
def acceptL : List (IntKind × Int) := (List.range 16).flatMap fun i => [(IntKind.u8, ((Lib.accLo i : Nat) : Int)), (IntKind.u8, ((Lib.accHi i : Nat) : Int))]
theorem first_eq : firstCells = firstL.map fun x => AV.int x.1 x.2 := by unfold firstCells firstL; rw [List.map_map]; rfl
theorem accept_eq : acceptCells = acceptL.map fun x => AV.int x.1 x.2 := by unfold acceptCells acceptL; rw [List.map_flatMap]; rfl
theorem accept_at : ∀ j < 32, acceptL[j]? = some (if j % 2 = 0 then (IntKind.u8, ((Lib.accLo (j / 2) : Nat) : Int)) else (IntKind.u8, ((Lib.accHi (j / 2) : Nat) : Int))) := by decide
theorem accept_len : acceptL.length = 32 := by decide
theorem top_GL {W : World} {m : Int} (hU : Lib.Utf8Tabs 0 1 W) (hm : W.cell? ⟨2, 0, none⟩ = some (.int .i64 m)) : Abs.Good (GL m) (Ctx.top W) := by
  refine top_good fun p hp => ?_
  simp only [GL, List.mem_cons, List.mem_nil_iff, or_false] at hp
  obtain ⟨h1, h2⟩ := hU
  rcases hp with rfl | rfl | rfl
  · refine ⟨firstL.map fun x => Value.int x.1 x.2, block_of_cell (h1 0 (by decide)), ⟨fun j u hu => ?_, fun h => absurd h (by simp [firstCells])⟩, by rw [first_eq]; exact rep_of_ints _⟩
    have hj : j < 256 := by have := (List.getElem?_eq_some_iff.1 hu).1; simpa [firstL] using this
    have := h1 j hj
    rw [Nat.zero_add, this, ← hu]
    simp [firstL, hj]
  · refine ⟨acceptL.map fun x => Value.int x.1 x.2, block_of_cell (h2 0 (by decide)).1, ⟨fun j u hu => ?_, fun h => absurd h (by simp only [accept_eq, List.length_map, accept_len]; decide)⟩, by rw [accept_eq]; exact rep_of_ints _⟩
    have hj : j < 32 := by have := (List.getElem?_eq_some_iff.1 hu).1; simpa [accept_len] using this
    have hk := h2 (j / 2) (by omega)
    rw [List.getElem?_map, accept_at j hj] at hu
    rw [Nat.zero_add, ← hu]
    by_cases hpar : j % 2 = 0
    · rw [if_pos hpar]
      have e : 2 * (j / 2) = j := by omega
      have := hk.1
      rw [e] at this
      exact this
    · rw [if_neg hpar]
      have e : 2 * (j / 2) + 1 = j := by omega
      have := hk.2
      rw [e] at this
      exact this
  · exact ⟨[.int .i64 m], block_of_cell hm, ⟨fun j u hu => by
      cases j with
      | zero => simp at hu; rw [← hu]; exact hm
      | succ j => simp at hu, fun h => absurd h (by simp)⟩, by simp [RepFL, RepF]⟩
end Go.Proofs.YtjjppmbojcgdgaaGreatDoor

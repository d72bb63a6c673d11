/- Two rows of parts held against one another. -/
import Derived.Test.YtpbjjhpihhnomaaGreatDoorJ15
set_option linter.unusedVariables false
set_option linter.unusedSimpArgs false
set_option maxRecDepth 100000
set_option maxHeartbeats 4000000

namespace Go.Proofs.YtpbjjhpihhnomaaGreatDoor
open Go Go.Abs
attribute [local irreducible] DrawW CallW RetW AC Does CmpW
variable {G : Globs}
open Gpl (Part)
def encPz (p : Int × List UInt8) : List AV := [.int .i64 p.1, .str p.2]
theorem encPz_two (l : List (Int × List UInt8)) : ∀ y ∈ l.map encPz, y.length = 2 := fun y hy => by obtain ⟨z, _, rfl⟩ := List.mem_map.1 hy; rfl
theorem Same18_does (l : List (Int × List UInt8)) (hl : l.length < 1000000) : Does Tryz.prog G 19 [.fsl (l.map encPz), .fsl (l.map encPz)] [] fun ae _ => ae = .ret (.bool true) := by
  have ll : (l.map encPz).length = l.length := by simp
  refine Does.bodyA tab Tryz.func19 rfl rfl ?_
  refine AC.step tab ?_
  refine gos ?_
  refine AC.step tab ?_
  refine gos ?_
  refine CmpW.f (by simp) ?_
  refine gos ?_
  refine AC.cutF tab (fun e h => e = List.replicate 26 .any ∧ h = []) ?_ ?_
  · refine gos ?_
    rw [ll]
    refine AC.loopC tab (fun f e h => ∃ (i : Nat), f + i = l.length + 1 ∧ i ≤ l.length ∧ e = ([.fsl (l.map encPz), .fsl (l.map encPz)] ++ List.replicate 9 .any ++ [.fsl (l.map encPz), .int .i64 l.length, .int .i64 i] ++ List.replicate 12 .any) ∧ h = []) (l.length + 1) ⟨_, fgts, 0, by omega, by omega, rfl, rfl⟩ ?_
    rintro f e h ⟨i, hf, hi, rfl, rfl⟩
    refine gos ?_
    by_cases hlt : i < l.length
    · obtain ⟨p, hp⟩ : ∃ p, l[i]? = some p := ⟨_, List.getElem?_eq_getElem hlt⟩
      refine CmpW.T ?_
      refine gos ?_
      refine DrawW.L ?_
      refine gos ?_
      refine And.intro (encPz_two l) (And.intro (by omega) ⟨encPz p, by rw [Int.toNat_natCast, List.getElem?_map, hp]; rfl, ?_⟩)
      refine gos ?_
      refine And.intro (encPz_two l) (And.intro (by omega) ⟨encPz p, by rw [Int.toNat_natCast, List.getElem?_map, hp]; rfl, ?_⟩)
      refine gos ?_
      refine CmpW.f (by simp) ?_
      refine gos ?_
      exact ⟨f - 1, _, 0, by omega, fgts, i + 1, by omega, by omega, rfl, rfl⟩
    · refine CmpW.N ?_
      refine gos ?_
      exact ⟨_, 0, fgts, rfl, rfl⟩
  rintro e h ⟨rfl, rfl⟩
  refine AC.go tab ?_
  refine gos ?_
  refine RetW.plain (by simp) ?_
  rfl
theorem Same18_parts (l : List Part) (hl : l.length < 1000000) : Does Tryz.prog G 19 [.fsl (l.map encPt), .fsl (l.map encPt)] [] fun ae _ => ae = .ret (.bool true) := by
  have h := Same18_does (G := G) (l.map fun p => ((p.kind : Int), p.text)) (by rw [List.length_map]; exact hl)
  rw [List.map_map] at h
  exact h
end Go.Proofs.YtpbjjhpihhnomaaGreatDoor

/- A table's single texts: pointers to them. -/
import Derived.Test.YtijdnjngfkohfaaGreatDoorJ29
set_option linter.unusedVariables false
set_option linter.unusedSimpArgs false
set_option maxRecDepth 100000
set_option maxHeartbeats 4000000

namespace Go.Proofs.YtijdnjngfkohfaaGreatDoor
open Go Go.Abs
attribute [local irreducible] DrawW CallW RetW AC Does CmpW
variable {G : Globs}
def strs27 (t : TTab) : List (List UInt8) := [t.dg.d0, t.dg.d1, t.dg.d2, t.dg.d3, t.dg.d4, t.dg.d5, t.dg.d6, t.dg.d7, t.dg.d8, t.dg.d9, t.minus, t.plus, t.percent, t.permille, t.point, t.comma, t.decimal, t.per, t.money, t.account, t.rules, t.before.cur, t.before.num, t.before.ins, t.after.cur, t.after.num, t.after.ins]
def offs27 : List Nat := [0, 1, 2, 3, 4, 5, 6, 7, 8, 9, 10, 11, 12, 13, 14, 15, 17, 18, 19, 20, 21, 28, 29, 30, 31, 32, 33]
def ptrsF (t : TTab) : List (List AV) := offs27.map fun k => [.fptr ((tabC t).drop k)]
def ptrsO (v : Nat) : List (List AV) := offs27.map fun k => [.ptr 0 v 0 k]
theorem ptrsF_get (t : TTab) {i : Nat} (hi : i < 27) : ∃ s cs, (strs27 t)[i]? = some s ∧ (ptrsF t)[i]? = some [.fptr (.str s :: cs)] := by
  have : i = 0 ∨ i = 1 ∨ i = 2 ∨ i = 3 ∨ i = 4 ∨ i = 5 ∨ i = 6 ∨ i = 7 ∨ i = 8 ∨ i = 9 ∨ i = 10 ∨ i = 11 ∨ i = 12 ∨ i = 13 ∨ i = 14 ∨ i = 15 ∨ i = 16 ∨ i = 17 ∨ i = 18 ∨ i = 19 ∨ i = 20 ∨ i = 21 ∨ i = 22 ∨ i = 23 ∨ i = 24 ∨ i = 25 ∨ i = 26 := by omega
  rcases this with rfl | rfl | rfl | rfl | rfl | rfl | rfl | rfl | rfl | rfl | rfl | rfl | rfl | rfl | rfl | rfl | rfl | rfl | rfl | rfl | rfl | rfl | rfl | rfl | rfl | rfl | rfl
  all_goals exact ⟨_, _, rfl, rfl⟩
theorem ptrsF_one (t : TTab) : ∀ y ∈ ptrsF t, y.length = 1 := fun y hy => by obtain ⟨z, _, rfl⟩ := List.mem_map.1 hy; rfl
theorem textsF_does (t : TTab) : Does Tryz.prog G 73 [.fptr (tabC t)] [] fun ae _ => ae = .ret (.fsl (ptrsF t)) := by
  refine Does.bodyA tab Tryz.func73 rfl rfl ?_
  refine AC.step tab ?_
  refine gos ?_
  refine AC.step tab ?_
  refine gos ?_
  intro v1
  refine gos ?_
  refine AC.cutF tab (fun e h => ∃ v2, e = ([.fptr (tabC t)] ++ List.replicate 2 .any ++ [.sl 0 v2] ++ List.replicate 74 .any) ∧ h = [some ⟨v2, 151, 1, (ptrsF t).take 10⟩]) ?_ ?_
  · refine gos ?_
    refine AC.rounds tab 11 ?_
    (repeat (first | refine gof ?_ | refine fun (vv : Nat) => ?_))
    exact ⟨_, 1, fgts, _, rfl, rfl⟩
  rintro e h ⟨v2, rfl, rfl⟩
  refine AC.go tab ?_
  refine gos ?_
  refine DrawW.L ?_
  refine gos ?_
  intro v3
  refine gos ?_
  refine And.intro (And.intro (fun y hy => by obtain ⟨z, _, rfl⟩ := List.mem_map.1 (show y ∈ (offs27.drop 10).map (fun k => [AV.fptr ((tabC t).drop k)]) from hy); rfl) (fun y hy => by obtain ⟨z, _, rfl⟩ := List.mem_map.1 (show y ∈ (offs27.drop 10).map (fun k => [AV.fptr ((tabC t).drop k)]) from hy); rfl)) ?_
  refine And.intro (And.intro rfl trivial) ?_
  (repeat (first | refine gof ?_ | refine fun (vv : Nat) => ?_))
  refine RetW.wk (r' := .fsl (ptrsF t)) (by simp) ?_ (Wk.row (k := 0) (i := 0) (o := ⟨vv, 151, 1, ptrsF t⟩) rfl rfl rfl rfl) ?_
  · rfl
  rfl
theorem textsO_does (es : List (List AV)) (v : Nat) : Does Tryz.prog G 73 [.ptr 0 v 0 0] [some ⟨v, 62, 34, es⟩, none] fun ae O => ∃ N, ae = .ret (.sl 1 N) ∧ O = [some ⟨v, 62, 34, es⟩, some ⟨N, 151, 1, ptrsO v⟩] := by
  refine Does.bodyA tab Tryz.func73 rfl rfl ?_
  refine AC.step tab ?_
  refine gos ?_
  refine AC.step tab ?_
  refine gos ?_
  intro v1
  refine gos ?_
  refine AC.cutF tab (fun e h => ∃ v2, e = ([.ptr 0 v 0 0] ++ List.replicate 2 .any ++ [.sl 2 v2] ++ List.replicate 74 .any) ∧ h = [some ⟨v, 62, 34, es⟩, none, some ⟨v2, 151, 1, (ptrsO v).take 10⟩]) ?_ ?_
  · refine gos ?_
    refine AC.rounds tab 11 ?_
    (repeat (first | refine gof ?_ | refine fun (vv : Nat) => ?_))
    exact ⟨_, 3, fgts, _, rfl, rfl⟩
  rintro e h ⟨v2, rfl, rfl⟩
  refine AC.go tab ?_
  refine gos ?_
  refine DrawW.L ?_
  refine gos ?_
  intro v3
  refine gos ?_
  refine And.intro (And.intro (fun y hy => by obtain ⟨z, _, rfl⟩ := List.mem_map.1 (show y ∈ (offs27.drop 10).map (fun k => [AV.ptr 0 v 0 k]) from hy); rfl) (fun y hy => by obtain ⟨z, _, rfl⟩ := List.mem_map.1 (show y ∈ (offs27.drop 10).map (fun k => [AV.ptr 0 v 0 k]) from hy); rfl)) ?_
  refine And.intro (And.intro rfl trivial) ?_
  (repeat (first | refine gof ?_ | refine fun (vv : Nat) => ?_))
  refine RetW.move (j := 1) (k := 2) (by simp) rfl rfl (fun N => ?_)
  exact ⟨N, rfl, rfl⟩
end Go.Proofs.YtijdnjngfkohfaaGreatDoor

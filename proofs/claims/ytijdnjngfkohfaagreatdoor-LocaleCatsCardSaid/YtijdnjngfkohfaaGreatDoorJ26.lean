/- Something for each category: what is put, what is had. -/
import Derived.Test.YtijdnjngfkohfaaGreatDoorJ18
import Derived.Test.YtijdnjngfkohfaaGreatDoorJ25
set_option linter.unusedVariables false
set_option linter.unusedSimpArgs false
set_option maxRecDepth 100000
set_option maxHeartbeats 4000000

namespace Go.Proofs.YtijdnjngfkohfaaGreatDoor
open Go Go.Abs
attribute [local irreducible] DrawW CallW RetW AC Does CmpW
variable {G : Globs}
structure PD where
  a : List (List AV)
  b : List (List AV)
  c : List (List AV)
  d : List (List AV)
  two : Bool
  N : Num
structure CD where
  z : Nat
  nb : Bool
  p : PD
def PD.cells (x : PD) : List AV := patCells ⟨.fsl x.a, .fsl x.b, .fsl x.c, .fsl x.d⟩ x.two x.N
def CD.cells (x : CD) : List AV := .int .i64 (x.z : Int) :: .bool x.nb :: x.p.cells
def pd0 : PD := ⟨[], [], [], [], false, Num.zero⟩
def cd0 : CD := ⟨0, false, pd0⟩
def encI (n : Int) : List AV := [.int .i64 n]
def BC.hs {α : Type} (b : BC α) : List AV := [.bool b.h0, .bool b.h1, .bool b.h2, .bool b.h3, .bool b.h4, .bool b.h5]
def bcC {α : Type} (enc : α → List AV) (b : BC α) : List AV := enc b.l0 ++ enc b.l1 ++ enc b.l2 ++ enc b.l3 ++ enc b.l4 ++ enc b.l5 ++ b.hs
theorem cat6 {c : Int} (h : 0 ≤ c ∧ c ≤ 5) : c = 0 ∨ c = 1 ∨ c = 2 ∨ c = 3 ∨ c = 4 ∨ c = 5 := by omega
theorem getC_out {α : Type} {b : BC α} {c : Int} (h : ¬ (0 ≤ c ∧ c ≤ 5)) : getC b c = b.l5 := by simp [getC, hasC, h]
theorem hasC_out {α : Type} {b : BC α} {c : Int} (h : ¬ (0 ≤ c ∧ c ≤ 5)) : hasC b c = false := by simp [hasC, h]
theorem putC_out {α : Type} {b : BC α} {c : Int} {x : α} (h : ¬ (0 ≤ c ∧ c ≤ 5)) : putC b c x = b := by simp [putC, h]
theorem IntGet_does (b : BC (Int)) (c : Int) : Does Tryz.prog G 14 [.fptr (bcC encI b), .int .i64 c] [] fun ae _ => ae = .ret (.int .i64 (getC b c)) := by
  refine Does.body tab Tryz.func14 rfl rfl ?_
  by_cases hc : 0 ≤ c ∧ c ≤ 5
  case neg =>
    rw [getC_out hc]
    refine gos ?_
    by_cases h0 : c < 0
    · refine CmpW.T ?_
      refine gos ?_
      refine RetW.plain (by simp) ?_
      rfl
    · refine CmpW.N ?_
      refine gos ?_
      refine CmpW.T ?_
      refine gos ?_
      refine RetW.plain (by simp) ?_
      rfl
  obtain ⟨l0, l1, l2, l3, l4, l5, h0, h1, h2, h3, h4, h5⟩ := b
  rcases cat6 hc with rfl | rfl | rfl | rfl | rfl | rfl
  · cases h0
    all_goals
      refine gos ?_
      refine RetW.plain (by simp) ?_
      rfl
  · cases h1
    all_goals
      refine gos ?_
      refine RetW.plain (by simp) ?_
      rfl
  · cases h2
    all_goals
      refine gos ?_
      refine RetW.plain (by simp) ?_
      rfl
  · cases h3
    all_goals
      refine gos ?_
      refine RetW.plain (by simp) ?_
      rfl
  · cases h4
    all_goals
      refine gos ?_
      refine RetW.plain (by simp) ?_
      rfl
  · cases h5
    all_goals
      refine gos ?_
      refine RetW.plain (by simp) ?_
      rfl
theorem IntHas_does (b : BC (Int)) (c : Int) : Does Tryz.prog G 15 [.fptr (bcC encI b), .int .i64 c] [] fun ae _ => ae = .ret (.bool (hasC b c)) := by
  refine Does.body tab Tryz.func15 rfl rfl ?_
  by_cases hc : 0 ≤ c ∧ c ≤ 5
  case neg =>
    rw [hasC_out hc]
    refine gos ?_
    by_cases h0 : 0 ≤ c
    · refine CmpW.T ?_
      refine gos ?_
      refine CmpW.N ?_
      refine gos ?_
      refine RetW.plain (by simp) ?_
      rfl
    · refine CmpW.N ?_
      refine gos ?_
      refine RetW.plain (by simp) ?_
      rfl
  obtain ⟨l0, l1, l2, l3, l4, l5, h0, h1, h2, h3, h4, h5⟩ := b
  rcases cat6 hc with rfl | rfl | rfl | rfl | rfl | rfl
  all_goals
    refine gos ?_
    refine RetW.plain (by simp) ?_
    rfl
theorem IntPut_does (v : Nat) (b : BC (Int)) (c : Int) (x : Int) : Does Tryz.prog G 13 [.ptr 0 v 0 0, .int .i64 c, .int .i64 x] [some ⟨v, 28, 12, [bcC encI b]⟩] fun ae O => ae = .ret (.tuple []) ∧ O = [some ⟨v, 28, 12, [bcC encI (putC b c x)]⟩] := by
  refine Does.body tab Tryz.func13 rfl rfl ?_
  by_cases hc : 0 ≤ c ∧ c ≤ 5
  case neg =>
    rw [putC_out hc]
    refine gos ?_
    by_cases h0 : 0 ≤ c
    · refine CmpW.T ?_
      refine gos ?_
      refine CmpW.N ?_
      refine gos ?_
      refine RetW.plain (by simp) ?_
      exact ⟨rfl, rfl⟩
    · refine CmpW.N ?_
      refine gos ?_
      refine RetW.plain (by simp) ?_
      exact ⟨rfl, rfl⟩
  obtain ⟨l0, l1, l2, l3, l4, l5, h0, h1, h2, h3, h4, h5⟩ := b
  rcases cat6 hc with rfl | rfl | rfl | rfl | rfl | rfl
  all_goals
    refine gos ?_
    refine DrawW.P (.take 0 (.take 1 (.take 2 (.take 3 (.take 4 (.take 5 (.take 6 (.take 7 (.take 9 (.take 10 (.take 8 (.take 11 (.take 12 .done))))))))))))) ?_
    refine gos ?_
    refine RetW.plain (by simp) ?_
    exact ⟨rfl, rfl⟩
theorem StrGet_does (b : BC (List UInt8)) (c : Int) : Does Tryz.prog G 16 [.fptr (bcC encS1 b), .int .i64 c] [] fun ae _ => ae = .ret (.str (getC b c)) := by
  refine Does.body tab Tryz.func16 rfl rfl ?_
  by_cases hc : 0 ≤ c ∧ c ≤ 5
  case neg =>
    rw [getC_out hc]
    refine gos ?_
    by_cases h0 : c < 0
    · refine CmpW.T ?_
      refine gos ?_
      refine RetW.plain (by simp) ?_
      rfl
    · refine CmpW.N ?_
      refine gos ?_
      refine CmpW.T ?_
      refine gos ?_
      refine RetW.plain (by simp) ?_
      rfl
  obtain ⟨l0, l1, l2, l3, l4, l5, h0, h1, h2, h3, h4, h5⟩ := b
  rcases cat6 hc with rfl | rfl | rfl | rfl | rfl | rfl
  · cases h0
    all_goals
      refine gos ?_
      refine RetW.plain (by simp) ?_
      rfl
  · cases h1
    all_goals
      refine gos ?_
      refine RetW.plain (by simp) ?_
      rfl
  · cases h2
    all_goals
      refine gos ?_
      refine RetW.plain (by simp) ?_
      rfl
  · cases h3
    all_goals
      refine gos ?_
      refine RetW.plain (by simp) ?_
      rfl
  · cases h4
    all_goals
      refine gos ?_
      refine RetW.plain (by simp) ?_
      rfl
  · cases h5
    all_goals
      refine gos ?_
      refine RetW.plain (by simp) ?_
      rfl
theorem StrHas_does (b : BC (List UInt8)) (c : Int) : Does Tryz.prog G 17 [.fptr (bcC encS1 b), .int .i64 c] [] fun ae _ => ae = .ret (.bool (hasC b c)) := by
  refine Does.body tab Tryz.func17 rfl rfl ?_
  by_cases hc : 0 ≤ c ∧ c ≤ 5
  case neg =>
    rw [hasC_out hc]
    refine gos ?_
    by_cases h0 : 0 ≤ c
    · refine CmpW.T ?_
      refine gos ?_
      refine CmpW.N ?_
      refine gos ?_
      refine RetW.plain (by simp) ?_
      rfl
    · refine CmpW.N ?_
      refine gos ?_
      refine RetW.plain (by simp) ?_
      rfl
  obtain ⟨l0, l1, l2, l3, l4, l5, h0, h1, h2, h3, h4, h5⟩ := b
  rcases cat6 hc with rfl | rfl | rfl | rfl | rfl | rfl
  all_goals
    refine gos ?_
    refine RetW.plain (by simp) ?_
    rfl
theorem StrPut_does (v : Nat) (b : BC (List UInt8)) (c : Int) (x : List UInt8) : Does Tryz.prog G 149 [.ptr 0 v 0 0, .int .i64 c, .str x] [some ⟨v, 38, 12, [bcC encS1 b]⟩] fun ae O => ae = .ret (.tuple []) ∧ O = [some ⟨v, 38, 12, [bcC encS1 (putC b c x)]⟩] := by
  refine Does.body tab Tryz.func149 rfl rfl ?_
  by_cases hc : 0 ≤ c ∧ c ≤ 5
  case neg =>
    rw [putC_out hc]
    refine gos ?_
    by_cases h0 : 0 ≤ c
    · refine CmpW.T ?_
      refine gos ?_
      refine CmpW.N ?_
      refine gos ?_
      refine RetW.plain (by simp) ?_
      exact ⟨rfl, rfl⟩
    · refine CmpW.N ?_
      refine gos ?_
      refine RetW.plain (by simp) ?_
      exact ⟨rfl, rfl⟩
  obtain ⟨l0, l1, l2, l3, l4, l5, h0, h1, h2, h3, h4, h5⟩ := b
  rcases cat6 hc with rfl | rfl | rfl | rfl | rfl | rfl
  all_goals
    refine gos ?_
    refine DrawW.P (.take 0 (.take 1 (.take 2 (.take 3 (.take 4 (.take 5 (.take 6 (.take 7 (.take 9 (.take 10 (.take 8 (.take 11 (.take 12 .done))))))))))))) ?_
    refine gos ?_
    refine RetW.plain (by simp) ?_
    exact ⟨rfl, rfl⟩
def encB (x : List (List AV) × List (List AV)) : List AV := [.fsl x.1, .fsl x.2]
theorem BraGet_does (b : BC (List (List AV) × List (List AV))) (c : Int) : Does Tryz.prog G 125 [.fptr (bcC encB b), .int .i64 c] [] fun ae _ => ae = .ret (.agg (encB (getC b c))) := by
  refine Does.body tab Tryz.func125 rfl rfl ?_
  by_cases hc : 0 ≤ c ∧ c ≤ 5
  case neg =>
    rw [getC_out hc]
    refine gos ?_
    intro v1
    refine gos ?_
    by_cases h0 : c < 0
    · refine CmpW.T ?_
      refine gos ?_
      refine RetW.plain (by simp) ?_
      rfl
    · refine CmpW.N ?_
      refine gos ?_
      refine CmpW.T ?_
      refine gos ?_
      refine RetW.plain (by simp) ?_
      rfl
  obtain ⟨l0, l1, l2, l3, l4, l5, h0, h1, h2, h3, h4, h5⟩ := b
  rcases cat6 hc with rfl | rfl | rfl | rfl | rfl | rfl
  · cases h0
    all_goals
      refine gos ?_
      intro v1
      refine gos ?_
      refine RetW.plain (by simp) ?_
      rfl
  · cases h1
    all_goals
      refine gos ?_
      intro v1
      refine gos ?_
      refine RetW.plain (by simp) ?_
      rfl
  · cases h2
    all_goals
      refine gos ?_
      intro v1
      refine gos ?_
      refine RetW.plain (by simp) ?_
      rfl
  · cases h3
    all_goals
      refine gos ?_
      intro v1
      refine gos ?_
      refine RetW.plain (by simp) ?_
      rfl
  · cases h4
    all_goals
      refine gos ?_
      intro v1
      refine gos ?_
      refine RetW.plain (by simp) ?_
      rfl
  · cases h5
    all_goals
      refine gos ?_
      intro v1
      refine gos ?_
      refine RetW.plain (by simp) ?_
      rfl
theorem BraPut_does (v : Nat) (b : BC (List (List AV) × List (List AV))) (c : Int) (x : List (List AV) × List (List AV)) : Does Tryz.prog G 147 [.ptr 0 v 0 0, .int .i64 c, .agg (encB x)] [some ⟨v, 258, 18, [bcC encB b]⟩] fun ae O => ae = .ret (.tuple []) ∧ O = [some ⟨v, 258, 18, [bcC encB (putC b c x)]⟩] := by
  refine Does.bodyA tab Tryz.func147 rfl rfl ?_
  refine AC.step tab ?_
  refine gos ?_
  intro v1
  refine gos ?_
  by_cases hc : 0 ≤ c ∧ c ≤ 5
  case neg =>
    rw [putC_out hc]
    refine AC.go tab ?_
    refine gos ?_
    by_cases h0 : 0 ≤ c
    · refine CmpW.T ?_
      refine gos ?_
      refine CmpW.N ?_
      refine gos ?_
      refine RetW.plain (by simp) ?_
      exact ⟨rfl, rfl⟩
    · refine CmpW.N ?_
      refine gos ?_
      refine RetW.plain (by simp) ?_
      exact ⟨rfl, rfl⟩
  obtain ⟨l0, l1, l2, l3, l4, l5, h0, h1, h2, h3, h4, h5⟩ := b
  rcases cat6 hc with rfl | rfl | rfl | rfl | rfl | rfl
  all_goals
    refine AC.go tab ?_
    refine gos ?_
    refine DrawW.P (.take 0 (.take 1 (.take 2 (.take 3 (.take 4 (.take 5 (.take 6 (.take 7 (.take 9 (.take 10 (.take 8 (.take 11 (.take 12 .done))))))))))))) ?_
    refine gos ?_
    refine RetW.plain (by simp) ?_
    exact ⟨rfl, rfl⟩
theorem CpaGet_does (b : BC (CD)) (c : Int) : Does Tryz.prog G 120 [.fptr (bcC CD.cells b), .int .i64 c] [] fun ae _ => ae = .ret (.agg (getC b c).cells) := by
  refine Does.body tab Tryz.func120 rfl rfl ?_
  by_cases hc : 0 ≤ c ∧ c ≤ 5
  case neg =>
    rw [getC_out hc]
    refine gos ?_
    intro v1
    refine gos ?_
    by_cases h0 : c < 0
    · refine CmpW.T ?_
      refine gos ?_
      refine RetW.plain (by simp) ?_
      rfl
    · refine CmpW.N ?_
      refine gos ?_
      refine CmpW.T ?_
      refine gos ?_
      refine RetW.plain (by simp) ?_
      rfl
  obtain ⟨l0, l1, l2, l3, l4, l5, h0, h1, h2, h3, h4, h5⟩ := b
  rcases cat6 hc with rfl | rfl | rfl | rfl | rfl | rfl
  · cases h0
    all_goals
      refine gos ?_
      intro v1
      refine gos ?_
      refine RetW.plain (by simp) ?_
      rfl
  · cases h1
    all_goals
      refine gos ?_
      intro v1
      refine gos ?_
      refine RetW.plain (by simp) ?_
      rfl
  · cases h2
    all_goals
      refine gos ?_
      intro v1
      refine gos ?_
      refine RetW.plain (by simp) ?_
      rfl
  · cases h3
    all_goals
      refine gos ?_
      intro v1
      refine gos ?_
      refine RetW.plain (by simp) ?_
      rfl
  · cases h4
    all_goals
      refine gos ?_
      intro v1
      refine gos ?_
      refine RetW.plain (by simp) ?_
      rfl
  · cases h5
    all_goals
      refine gos ?_
      intro v1
      refine gos ?_
      refine RetW.plain (by simp) ?_
      rfl
theorem CpaPut_does (v : Nat) (b : BC (CD)) (c : Int) (x : CD) : Does Tryz.prog G 204 [.ptr 0 v 0 0, .int .i64 c, .agg x.cells] [some ⟨v, 298, 84, [bcC CD.cells b]⟩] fun ae O => ae = .ret (.tuple []) ∧ O = [some ⟨v, 298, 84, [bcC CD.cells (putC b c x)]⟩] := by
  refine Does.bodyA tab Tryz.func204 rfl rfl ?_
  refine AC.step tab ?_
  refine gos ?_
  intro v1
  refine gos ?_
  by_cases hc : 0 ≤ c ∧ c ≤ 5
  case neg =>
    rw [putC_out hc]
    refine AC.go tab ?_
    refine gos ?_
    by_cases h0 : 0 ≤ c
    · refine CmpW.T ?_
      refine gos ?_
      refine CmpW.N ?_
      refine gos ?_
      refine RetW.plain (by simp) ?_
      exact ⟨rfl, rfl⟩
    · refine CmpW.N ?_
      refine gos ?_
      refine RetW.plain (by simp) ?_
      exact ⟨rfl, rfl⟩
  obtain ⟨l0, l1, l2, l3, l4, l5, h0, h1, h2, h3, h4, h5⟩ := b
  rcases cat6 hc with rfl | rfl | rfl | rfl | rfl | rfl
  all_goals
    refine AC.go tab ?_
    refine gos ?_
    refine DrawW.P (.take 0 (.take 1 (.take 2 (.take 3 (.take 4 (.take 5 (.take 6 (.take 7 (.take 9 (.take 10 (.take 8 (.take 11 (.take 12 .done))))))))))))) ?_
    refine gos ?_
    refine RetW.plain (by simp) ?_
    exact ⟨rfl, rfl⟩
end Go.Proofs.YtijdnjngfkohfaaGreatDoor

/- What is found in a locale by name. -/
import Derived.Test.YtijdnjngfkohfaaGreatDoorJ39
set_option linter.unusedVariables false
set_option linter.unusedSimpArgs false
set_option maxRecDepth 100000
set_option maxHeartbeats 4000000

namespace Go.Proofs.YtijdnjngfkohfaaGreatDoor
open Go Go.Abs
attribute [local irreducible] DrawW CallW RetW AC Does CmpW
variable {G : Globs} {o : TTab} {p1 p2 p3 p4 : PD} {t : TTab}
theorem Name_some {N : List (List AV)} (hok : keysOK N = true) {u mu : AV} {code : List UInt8} {c : TCur} (hl : lookM N code = some (curV c)) (cat : Int) :
    Does Tryz.prog G 42 [.fptr (locX o p1 p2 p3 p4 (rest1 t u (.fmap N) mu)), .str code, .int .i64 cat] [] fun ae _ => ae = .ret (.tuple [.str (getC (strB c.names) cat), .bool true]) := by
  have dG := StrGet_does (G := G) (strB c.names) cat
  unfold curV at hl
  generalize getC (strB c.names) cat = g at *
  generalize bcC encS1 (strB c.names) = B at *
  refine Does.body tab Tryz.func42 rfl rfl ?_
  refine gos ?_
  refine And.intro hok ⟨_, hl, ?_⟩
  refine gos ?_
  refine CallW.pure dG rfl rfl ?_
  refine gos ?_
  refine RetW.plain (by simp) ?_
  rfl
theorem Name_none {N : List (List AV)} (hok : keysOK N = true) {u mu : AV} {code : List UInt8} (hl : lookM N code = none) (cat : Int) :
    Does Tryz.prog G 42 [.fptr (locX o p1 p2 p3 p4 (rest1 t u (.fmap N) mu)), .str code, .int .i64 cat] [] fun ae _ => ae = .ret (.tuple [.str [], .bool false]) := by
  refine Does.body tab Tryz.func42 rfl rfl ?_
  refine gos ?_
  refine And.intro hok ⟨_, hl, ?_⟩
  refine gos ?_
  refine RetW.plain (by simp) ?_
  rfl
theorem Unit_some {U : List (List AV)} (hok : keysOK U = true) {n mu : AV} {name : List UInt8} {x : TUnt} (hl : lookM U name = some (unitV x)) (cat : Int) :
    Does Tryz.prog G 41 [.fptr (locX o p1 p2 p3 p4 (rest1 t (.fmap U) n mu)), .str name, .int .i64 cat] [] fun ae _ => ae = .ret (.tuple [.agg (encB (getC (brzB 1 x.texts) cat)), .bool true]) := by
  have dG := BraGet_does (G := G) (brzB 1 x.texts) cat
  unfold unitV at hl
  generalize getC (brzB 1 x.texts) cat = g at *
  generalize bcC encB (brzB 1 x.texts) = B at *
  refine Does.body tab Tryz.func41 rfl rfl ?_
  refine gos ?_
  intro v1
  refine gos ?_
  refine And.intro hok ⟨_, hl, ?_⟩
  refine gos ?_
  refine CallW.pure dG rfl rfl ?_
  refine gos ?_
  refine RetW.plain (by simp) ?_
  rfl
theorem Unit_none {U : List (List AV)} (hok : keysOK U = true) {n mu : AV} {name : List UInt8} (hl : lookM U name = none) (cat : Int) :
    Does Tryz.prog G 41 [.fptr (locX o p1 p2 p3 p4 (rest1 t (.fmap U) n mu)), .str name, .int .i64 cat] [] fun ae _ => ae = .ret (.tuple [.agg [.nils, .nils], .bool false]) := by
  refine Does.body tab Tryz.func41 rfl rfl ?_
  refine gos ?_
  intro v1
  refine gos ?_
  refine And.intro hok ⟨_, hl, ?_⟩
  refine gos ?_
  refine RetW.plain (by simp) ?_
  rfl
theorem MoneyUnit_does {u n : AV} (l : List TTxt) (cat : Int) :
    Does Tryz.prog G 40 [.fptr (locX o p1 p2 p3 p4 (rest1 t u n (.fptr (bcC encB (brzB 2 l))))), .int .i64 cat] [] fun ae _ => ae = .ret (.agg (encB (getC (brzB 2 l) cat))) := by
  have dG := BraGet_does (G := G) (brzB 2 l) cat
  generalize getC (brzB 2 l) cat = g at *
  generalize bcC encB (brzB 2 l) = B at *
  refine Does.body tab Tryz.func40 rfl rfl ?_
  refine gos ?_
  intro v1
  refine gos ?_
  refine CallW.pure dG rfl rfl ?_
  refine gos ?_
  refine RetW.plain (by simp) ?_
  rfl
end Go.Proofs.YtijdnjngfkohfaaGreatDoor

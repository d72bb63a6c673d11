/- The page's example of options. -/
import Derived.Test.YtjjppmbojcgdgaaGreatDoorOen
import Derived.Test.YtjjppmbojcgdgaaGreatDoorOfo
set_option linter.unusedVariables false
set_option linter.unusedSimpArgs false
set_option maxRecDepth 100000
set_option maxHeartbeats 4000000
namespace Go.Proofs.YtjjppmbojcgdgaaGreatDoor
open Go Go.Abs
attribute [local irreducible] DrawW CallW RetW AC Does CmpW
variable {G : Globs} {m : Int}

theorem OPattern0_does (o : TTab) (p1 p2 p3 p4 : PD) (rest : List AV) : Does Tryz.prog G 201 [.fptr (locX o p1 p2 p3 p4 rest), .int .i64 0] [] fun ae _ => ae = .ret (.agg p1.cells) := by
 refine Does.body tab Tryz.func201 rfl rfl ?_
 refine gos ?_
 intro v1
 refine gos ?_
 refine RetW.plain (by simp) ?_
 rfl
theorem OPrec0_does (o : TTab) (p1 p2 p3 p4 : PD) (rest : List AV) : Does Tryz.prog G 126 [.fptr (locX o p1 p2 p3 p4 rest), .agg zeroO.cells] [] fun ae _ => ae = .ret (.agg [.int .i64 0, .int .i64 p1.N.mnf, .int .i64 p1.N.mxf, .bool false, .str [], .int .i64 0, .int .i64 0, .int .i64 p1.N.mi]) := by
 have dM := omoney_does (G := G) zeroO
 rw [show monyB zeroO = false from rfl] at dM
 have dP := OPattern0_does (G := G) o p1 p2 p3 p4 rest
 refine Does.body tab Tryz.func126 rfl rfl ?_
 refine gos ?_
 intro v1
 refine gos ?_
 intro v2
 refine gos ?_
 refine CallW.pure dM rfl rfl ?_
 refine gos ?_
 refine CallW.pure dP rfl rfl ?_
 refine gos ?_
 intro v3
 refine gos ?_
 refine RetW.plain (by simp) ?_
 rfl
theorem zero_small : zeroO.small := ⟨by decide, by decide, by decide, by decide, by decide, by decide, by decide, by decide, by decide, by decide, by decide, by decide⟩
def moneyO : TOpt := { zeroO with style := 2 }
theorem encZ : (encO zeroO).length = 16 := by kernel_rfl
theorem resZ : resO (encO zeroO) = (zeroO, 0) := by kernel_rfl
theorem chkZ : chkO (hasU base0 []) zeroO = true := by kernel_rfl
theorem chkM : chkO (hasU base0 []) moneyO = false := by kernel_rfl
theorem mxfZ : (patP base0.decimal).N.mxf = 3 := by kernel_rfl
def zC : List AV := [.int .i64 0, .int .i64 0, .str [], .str [], .int .i64 0, .bool false, .int .i64 0, .bool false, .int .i64 0, .int .i64 0, .int .i64 0, .bool false, .str [], .int .i64 0, .int .i64 0, .int .i64 0, .bool false]
theorem eqZ (K : Bool → Prop) (h : K true) : eqTy TY 6 108 zC zC K := by
 (repeat (refine And.intro rfl ?_))
 exact h
theorem head22_does : Does Tryz.prog (GP m) 41 [] [] fun ae _ => ae = .ret (.bool true) := by
 have d0 : Does Tryz.prog (GP m) 16 [.int .i64 0] [] fun ae _ => ae = .ret (.fptr (tabC (baseF 0) ++ restB 0)) := (Base18_does (m := m) 0).more
 obtain ⟨x, y, hx, hy, ho, dU⟩ := UnitB_does (G := GP m) 0 []
 have dP := OPrec0_does (G := GP m) (baseF 0) (patP (baseF 0).decimal) (patP (baseF 0).per) (patP (baseF 0).money) (patP (baseF 0).account)
  (rest1 (baseF 0) (.fmap (unitsM (baseF 0).units)) (.fmap (namesM (baseF 0).curs)) (.fptr (bcC encB (brzB 2 (baseF 0).munit))))
 rw [← locG 0] at dP
 have dE := OEncode_does (m := m) zeroO zero_small
 have dD := ODecode_does (m := m) (encO zeroO) (by rw [encZ]; decide)
 rw [resZ] at dD
 have dD2 : Does Tryz.prog (GP m) 47 [.str (encO zeroO)] [] fun ae _ => ae = .ret (.tuple [.agg zC, .int .i64 0]) := dD
 clear dD
 have dC1 := OCheck_does (G := GP m) zeroO _ x y hx hy ho _ (by decide) (by decide) dU
 have dC2 := OCheck_does (G := GP m) moneyO _ x y hx hy ho _ (by decide) (by decide) dU
 rw [show baseF 0 = base0 from rfl] at *
 rw [chkZ, if_pos rfl] at dC1
 rw [chkM, if_neg (by decide)] at dC2
 have hm := mxfZ
 generalize (patP base0.decimal).N = N1 at *
 generalize tabC base0 ++ restB 0 = ls at *
 generalize encO zeroO = w at *
 refine Does.body tab Tryz.func41 rfl rfl ?_
 refine gos ?_
 refine CallW.pure d0 rfl rfl ?_
 refine gos ?_
 refine CallW.pure dE rfl rfl ?_
 refine gos ?_
 refine CallW.pure dD2 rfl rfl ?_
 refine gos ?_
 intro v1
 refine gos ?_
 refine CallW.pure dC1 rfl rfl ?_
 refine And.intro rfl ?_
 refine CmpW.t rfl ?_
 refine And.intro rfl ?_
 refine CmpW.t rfl ?_
 refine And.intro (fun _ => ?_) (fun h => Bool.noConfusion h)
 refine And.intro rfl ?_
 refine Exists.intro _ (And.intro rfl ?_)
 refine And.intro rfl ?_
 refine eqZ _ ?_
 refine CmpW.t rfl ?_
 refine gos ?_
 refine CallW.pure dC2 rfl rfl ?_
 refine gos ?_
 refine CallW.pure dP rfl rfl ?_
 refine gos ?_
 refine CmpW.t (by rw [hm]; rfl) ?_
 refine gos ?_
 refine RetW.plain (by simp) ?_
 rfl
end Go.Proofs.YtjjppmbojcgdgaaGreatDoor
